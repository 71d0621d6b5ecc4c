/- Contracts of layer 13: stage.Do. -/
import Derived.Test.YthjpcefjgmklfaaGe
import Derived.Test.YthjpcefjgmklfaaGh
set_option linter.unusedSimpArgs false
set_option linter.unusedVariables false
set_option linter.unusedSectionVars false
namespace Go.Sy
open Go.Proofs
set_option maxRecDepth 100000
attribute [local irreducible] SOps Goes DOps EOps FOps

/-- The nodes after a move: the arm with the label. -/
def stepAt (r : Nat) (label : ByteArray) (at_ : List Int) (arms : List Edge) : List Int := arms.foldl (fun l a => if a.label = label then l.set r a.next else l) at_
theorem stepAt_len (r : Nat) (label : ByteArray) (arms : List Edge) : ∀ at_ : List Int, (stepAt r label at_ arms).length = at_.length := by
  induction arms with
  | nil => intro at_; rfl
  | cons a l ih =>
    intro at_
    show (stepAt r label _ l).length = _
    rw [ih]
    dsimp only
    split <;> simp
theorem stepAt_succ {r : Nat} {label : ByteArray} {arms : List Edge} {j : Nat} (hj : j < arms.length) (at_ : List Int) :
    stepAt r label at_ (arms.take (j + 1)) = if arms[j].label = label then (stepAt r label at_ (arms.take j)).set r arms[j].next else stepAt r label at_ (arms.take j) := by
  unfold stepAt
  rw [List.take_succ_eq_append_getElem hj, List.foldl_append]; rfl
def peerN (b : Bk) (roles : List ByteArray) (s : Stg) (r : Nat) : Nat := (peerI b roles s r).toNat
/-- The queue that a move changes, what it holds then. -/
def moveQ (b : Bk) (roles : List ByteArray) (s : Stg) (m : Mv) : Nat :=
  if m.kind = 1 then m.role.toNat * roles.length + peerN b roles s m.role.toNat else peerN b roles s m.role.toNat * roles.length + m.role.toNat
def moveM (b : Bk) (roles : List ByteArray) (s : Stg) (m : Mv) : List ByteArray :=
  if m.kind = 1 then mailAt s (moveQ b roles s m) ++ [m.label] else (mailAt s (moveQ b roles s m)).drop 1
def doS (b : Bk) (roles : List ByteArray) (s : Stg) (m : Mv) : Stg :=
  ⟨stepAt m.role.toNat m.label s.at_ (stNd b s m.role.toNat).arms, s.mail.set (moveQ b roles s m) (moveM b roles s m)⟩
def doO (b : Bk) (roles : List ByteArray) (s : Stg) (m : Mv) : Stg × Int :=
  if mayS b roles s = false then (⟨[], []⟩, 1300) else if m ∉ movesS b roles s then (⟨[], []⟩, 1301) else (doS b roles s m, 0)
abbrev stgR (r : Stg × Int) : ST := .tup [Ag r.1.cs, C1 (.int .i64 r.2)]

/-- What is known of a move that is possible. -/
structure CanDo (b : Bk) (roles : List ByteArray) (s : Stg) (m : Mv) (r t : Nat) : Prop where
  lt : r < roles.length
  tlt : t < roles.length
  ne : t ≠ r
  role : m.role = (r : Int)
  peer : peerI b roles s r = (t : Int)
  kind : (m.kind = 1 ∧ (stNd b s r).kind = 1 ∧ (mailAt s (r * roles.length + t)).length < 64) ∨ (m.kind = 2 ∧ (stNd b s r).kind = 2 ∧ ∃ rest, mailAt s (t * roles.length + r) = m.label :: rest)
  arm : ∃ a ∈ (stNd b s r).arms, a.label = m.label
theorem mem_movesAt {b : Bk} {roles : List ByteArray} {s : Stg} {m : Mv} {r : Nat} (hr : r < roles.length) (h : m ∈ movesAt b roles s r) : ∃ t, CanDo b roles s m r t := by
  rcases peerI_range b roles s r with hp | ⟨t, ht, hne, hp⟩
  · simp [movesAt, hp] at h
  · have h0 : ¬ ((t : Int) < 0) := by omega
    simp only [movesAt, hp, h0, if_false, Int.toNat_natCast] at h
    split at h
    · rename_i hS
      obtain ⟨a, ha, rfl⟩ := List.mem_map.1 h
      exact ⟨t, hr, ht, hne, rfl, hp, .inl ⟨rfl, hS.1, hS.2⟩, a, ha, rfl⟩
    · split at h
      · rename_i hR
        split at h
        · cases h
        · rename_i q rest hq
          split at h
          · rename_i hany
            rw [List.mem_singleton] at h; subst h
            obtain ⟨a, ha, hal⟩ := List.any_eq_true.1 hany
            exact ⟨t, hr, ht, hne, rfl, hp, .inr ⟨rfl, hR, rest, hq⟩, a, ha, by simpa using hal⟩
          · cases h
      · cases h
theorem mem_moves {b : Bk} {roles : List ByteArray} {s : Stg} {m : Mv} (h : m ∈ movesS b roles s) : mayS b roles s = true ∧ ∃ r t, CanDo b roles s m r t := by
  unfold movesS at h
  split at h
  · rename_i hM
    refine ⟨hM, ?_⟩
    unfold movesUp at h
    rw [List.mem_flatMap] at h
    obtain ⟨r, hr, h⟩ := h
    obtain ⟨t, ht⟩ := mem_movesAt (List.mem_range.1 hr) h
    exact ⟨r, t, ht⟩
  · cases h
theorem mayS_long {b : Bk} {roles : List ByteArray} {s : Stg} (h : mayS b roles s = true) : ∀ m ∈ s.mail, m.length ≤ 64 := by
  simp only [mayS, Bool.and_eq_true] at h
  have h7 := h.2.2.2.2.2.2.2
  intro m hm
  have h8 : s.mail.any longB = false := by simpa using h7
  have := List.any_eq_false.1 h8 m hm
  simp [longB] at this
  omega
theorem mayS_big {b : Bk} {roles : List ByteArray} {s : Stg} (h : mayS b roles s = true) : StgBig s := by
  obtain ⟨h1, h2, h3, h4, _⟩ := mayS_at h
  have h5 : roles.length * roles.length ≤ 5 * 5 := Nat.mul_le_mul h2 h2
  exact ⟨by omega, by omega, fun m hm => by have := mayS_long h m hm; omega⟩

theorem qpool_get {hs : List Value} {ms : List (List ByteArray)} {q : Nat} {h : Value} {m : List ByteArray} (h1 : hs[q]? = some h) (h2 : ms[q]? = some m) : (qpool hs ms)[q]? = some (h, qrow m) := by
  have : (hs.zip ms)[q]? = some (h, m) := List.getElem?_zip_eq_some.2 ⟨h1, h2⟩
  simp [qpool, this]
theorem zip_set2 {α β : Type} : ∀ (l : List α) (r : List β) (q : Nat) (a : α) (b : β), (l.zip r).set q (a, b) = (l.set q a).zip (r.set q b)
  | [], _, q, a, b => by simp
  | x :: l, [], q, a, b => by cases q <;> simp
  | x :: l, y :: r, 0, a, b => by simp
  | x :: l, y :: r, q + 1, a, b => by simp [zip_set2 l r q a b]
theorem qpool_set {hs : List Value} {ms : List (List ByteArray)} {q : Nat} (h : Value) (m : List ByteArray) : (qpool hs ms).set q (h, qrow m) = qpool (hs.set q h) (ms.set q m) := by
  unfold qpool
  rw [← zip_set2, List.map_set]
theorem qpool_fst {hs : List Value} {ms : List (List ByteArray)} (h : hs.length = ms.length) : (qpool hs ms).map (fun q => [CT.val q.1]) = vrow hs := by
  unfold qpool vrow
  rw [List.map_map]
  apply List.ext_getElem
  · simp [h]
  · intro i h1 h2; simp
theorem qpool_snd {hs : List Value} {ms : List (List ByteArray)} (h : hs.length = ms.length) : (qpool hs ms).map (fun q => [CT.slice false 1 q.2]) = ms.map fun m => [namesT m] := by
  unfold qpool
  rw [List.map_map]
  apply List.ext_getElem
  · simp [h]
  · intro i h1 h2; simp
end Go.Sy
