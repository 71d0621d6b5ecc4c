/- The plain law of local types and protocols: what is valid, what is reached, what is trimmed. -/
import Derived.Test.YtadimhaolhpglaaDat
import Derived.Test.YtadimhaolhpglaaFb
set_option linter.unusedSimpArgs false
set_option linter.unusedVariables false
set_option linter.unusedSectionVars false
namespace Go.Sy

/-! ### Data -/
structure Arm where
  label : ByteArray
  kind : Int
  name : ByteArray
  next : Int
deriving DecidableEq
abbrev Arm.cs (a : Arm) : List CT := [.str a.label, .int .i64 a.kind, .str a.name, .int .i64 a.next]
abbrev armsC (l : List Arm) : CT := .slice false 4 (l.map Arm.cs)
structure Trn where
  kind : Int
  peer : ByteArray
  arms : List Arm
deriving DecidableEq
abbrev Trn.cs (t : Trn) : List CT := [.int .i64 t.kind, .str t.peer, armsC t.arms]
structure Loc where
  name : ByteArray
  turns : List Trn
abbrev turnsC (l : List Trn) : CT := .slice false 3 (l.map Trn.cs)
abbrev Loc.cs (l : Loc) : List CT := [.str l.name, turnsC l.turns]
structure Pnt where
  from_ : ByteArray
  to : ByteArray
  arms : List Arm
deriving DecidableEq
abbrev Pnt.cs (x : Pnt) : List CT := [.str x.from_, .str x.to, armsC x.arms]
structure Prt where
  name : ByteArray
  roles : List ByteArray
  points : List Pnt
abbrev pointsC (l : List Pnt) : CT := .slice false 3 (l.map Pnt.cs)
abbrev Prt.cs (p : Prt) : List CT := [.str p.name, namesT p.roles, pointsC p.points]

/-! ### What is valid -/
/-- Ahead of the first dot, and behind it. -/
def cutB : List UInt8 → Option (List UInt8 × List UInt8)
  | [] => none
  | c :: r => if c = 46 then some ([], r) else (cutB r).map fun p => (c :: p.1, p.2)
def typeB (s : ByteArray) : Bool := match cutB s.data.toList with
  | none => nameB s
  | some (a, b) => nameB ⟨a.toArray⟩ && nameB ⟨b.toArray⟩
def carB (kind : Int) (name : ByteArray) : Bool := if kind = 5 then typeB name else decide (0 ≤ kind) && (decide (kind < 5) && decide (name = ⟨#[]⟩))
def armB (n : Int) (a : Arm) : Bool := nameB a.label && (carB a.kind a.name && (decide (0 ≤ a.next) && decide (a.next < n)))
def armsOK (n : Int) (l : List Arm) : Bool := decide (1 ≤ l.length) && (decide (l.length ≤ 6) && (l.all (armB n) && decide ((l.map Arm.label).Nodup)))
def trnB (n : Int) (t : Trn) : Bool :=
  if t.kind = 0 then decide (t.peer = ⟨#[]⟩) && t.arms.isEmpty else if t.kind = 1 ∨ t.kind = 2 then nameB t.peer && armsOK n t.arms else false
def locB (l : Loc) : Bool := decide (1 ≤ l.turns.length) && (decide (l.turns.length ≤ 40) && l.turns.all (trnB l.turns.length))

/-! ### By rising labels -/
def insA (a : Arm) : List Arm → List Arm
  | [] => [a]
  | b :: l => if sLt a.label b.label then a :: b :: l else b :: insA a l
def risA (l : List Arm) : List Arm := l.foldl (fun out a => insA a out) []

/-! ### What is reached -/
abbrev Grp := List (List Arm)
def armsAt (g : Grp) (x : Int) : List Arm := g.getD x.toNat []
def bfsIn (out : List Int) : List Arm → List Int
  | [] => out
  | a :: l => bfsIn (if a.next ∈ out then out else out ++ [a.next]) l
def bfs (g : Grp) : Nat → Nat → List Int → List Int
  | 0, _, out => out
  | f + 1, i, out => match out[i]? with
    | none => out
    | some x => bfs g f (i + 1) (bfsIn out (risA (armsAt g x)))
def reachG (g : Grp) : List Int := bfs g (g.length + 1) 0 [0]
def Loc.g (l : Loc) : Grp := l.turns.map Trn.arms
def movA (row : List Int) (l : List Arm) : List Arm := (risA l).map fun a => { a with next := ((row.idxOf a.next : Nat) : Int) }
def noTrn : Trn := ⟨0, ⟨#[]⟩, []⟩
def trnAt (l : Loc) (x : Int) : Trn := l.turns.getD x.toNat noTrn
def trimT (l : Loc) : Loc := ⟨l.name, (reachG l.g).map fun x => ⟨(trnAt l x).kind, (trnAt l x).peer, movA (reachG l.g) (trnAt l x).arms⟩⟩
def walkG (g : Grp) : Int → List ByteArray → Option Int
  | x, [] => some x
  | x, s :: l => match (armsAt g x).find? fun a => decide (a.label = s) with
    | none => none
    | some a => walkG g a.next l

/-! ### A graph under other numbers -/
def renA (φ : Int → Int) (a : Arm) : Arm := { a with next := φ a.next }
theorem insA_ren (φ : Int → Int) (a : Arm) : ∀ l : List Arm, insA (renA φ a) (l.map (renA φ)) = (insA a l).map (renA φ)
  | [] => rfl
  | b :: l => by
    simp only [List.map_cons, insA]
    show (if sLt a.label b.label = true then _ else _) = _
    split
    · simp
    · simp [insA_ren φ a l]
theorem risA_ren (φ : Int → Int) (l : List Arm) : risA (l.map (renA φ)) = (risA l).map (renA φ) := by
  have h : ∀ (l out : List Arm), (l.map (renA φ)).foldl (fun out a => insA a out) (out.map (renA φ)) = (l.foldl (fun out a => insA a out) out).map (renA φ) := by
    intro l
    induction l with
    | nil => intro out; rfl
    | cons a l ih => intro out; rw [List.map_cons, List.foldl_cons, insA_ren, ih, List.foldl_cons]
  exact h l []
theorem bfsIn_app : ∀ (l : List Arm) (out : List Int), ∃ r, bfsIn out l = out ++ r
  | [], out => ⟨[], by simp [bfsIn]⟩
  | a :: l, out => by
    obtain ⟨r, hr⟩ := bfsIn_app l (if a.next ∈ out then out else out ++ [a.next])
    rw [bfsIn, hr]
    split
    · exact ⟨r, rfl⟩
    · exact ⟨a.next :: r, by simp⟩
theorem bfsIn_mem : ∀ (l : List Arm) (out : List Int) (x : Int), x ∈ bfsIn out l ↔ x ∈ out ∨ ∃ a ∈ l, a.next = x
  | [], out, x => by simp [bfsIn]
  | a :: l, out, x => by
    rw [bfsIn, bfsIn_mem l]
    by_cases h : a.next ∈ out
    · rw [if_pos h]
      constructor
      · rintro (h1 | ⟨b, hb, e⟩)
        · exact .inl h1
        · exact .inr ⟨b, List.mem_cons_of_mem _ hb, e⟩
      · rintro (h1 | ⟨b, hb, e⟩)
        · exact .inl h1
        · rcases List.mem_cons.1 hb with rfl | hb
          · exact .inl (e ▸ h)
          · exact .inr ⟨b, hb, e⟩
    · rw [if_neg h]
      simp only [List.mem_append, List.mem_cons, List.not_mem_nil, or_false, exists_eq_or_imp]
      constructor
      · rintro ((h1 | h1) | h1)
        · exact .inl h1
        · exact .inr (.inl h1.symm)
        · exact .inr (.inr h1)
      · rintro (h1 | h1 | h1)
        · exact .inl (.inl h1)
        · exact .inl (.inr h1.symm)
        · exact .inr h1
theorem bfs_app (g : Grp) : ∀ (f i : Nat) (out : List Int), ∃ r, bfs g f i out = out ++ r
  | 0, _, out => ⟨[], by simp [bfs]⟩
  | f + 1, i, out => by
    rw [bfs]
    cases out[i]? with
    | none => exact ⟨[], by simp⟩
    | some x =>
      obtain ⟨r, hr⟩ := bfsIn_app (risA (armsAt g x)) out
      obtain ⟨q, hq⟩ := bfs_app g f (i + 1) (bfsIn out (risA (armsAt g x)))
      exact ⟨r ++ q, by simp only; rw [hq, hr, List.append_assoc]⟩
/-- What is reached in one graph is reached in the other, under its other number. -/
theorem bfsIn_ren {φ : Int → Int} : ∀ (l : List Arm) (out : List Int), (∀ x ∈ bfsIn out l, ∀ y ∈ bfsIn out l, φ x = φ y → x = y) → bfsIn (out.map φ) (l.map (renA φ)) = (bfsIn out l).map φ
  | [], out, _ => rfl
  | a :: l, out, h => by
    rw [List.map_cons, bfsIn, bfsIn]
    have hin : (renA φ a).next ∈ out.map φ ↔ a.next ∈ out := by
      constructor
      · intro hm
        obtain ⟨x, hx, e⟩ := List.mem_map.1 hm
        have : x = a.next := h x ((bfsIn_mem _ _ _).2 (.inl hx)) a.next ((bfsIn_mem _ _ _).2 (.inr ⟨a, List.mem_cons_self, rfl⟩)) e
        rw [← this]; exact hx
      · exact fun hm => List.mem_map.2 ⟨a.next, hm, rfl⟩
    by_cases hm : a.next ∈ out
    · rw [if_pos (hin.2 hm), if_pos hm]
      exact bfsIn_ren l out (by rw [bfsIn, if_pos hm] at h; exact h)
    · rw [if_neg (fun e => hm (hin.1 e)), if_neg hm]
      have := bfsIn_ren l (out ++ [a.next]) (by rw [bfsIn, if_neg hm] at h; exact h)
      rwa [List.map_append] at this
theorem bfs_ren {g k : Grp} {φ : Int → Int} : ∀ (f i : Nat) (out : List Int), (∀ x ∈ bfs g f i out, ∀ y ∈ bfs g f i out, φ x = φ y → x = y) → (∀ x ∈ bfs g f i out, risA (armsAt k (φ x)) = (risA (armsAt g x)).map (renA φ)) → bfs k f i (out.map φ) = (bfs g f i out).map φ
  | 0, _, _, _, _ => rfl
  | f + 1, i, out, h1, h2 => by
    rw [bfs, bfs, List.getElem?_map]
    cases hx : out[i]? with
    | none => rfl
    | some x =>
      simp only [Option.map_some]
      have hE : bfs g (f + 1) i out = bfs g f (i + 1) (bfsIn out (risA (armsAt g x))) := by rw [bfs, hx]
      rw [hE] at h1 h2
      obtain ⟨r, hr⟩ := bfs_app g f (i + 1) (bfsIn out (risA (armsAt g x)))
      obtain ⟨q, hq⟩ := bfsIn_app (risA (armsAt g x)) out
      have hsub : ∀ z ∈ bfsIn out (risA (armsAt g x)), z ∈ bfs g f (i + 1) (bfsIn out (risA (armsAt g x))) := fun z hz => by rw [hr]; exact List.mem_append_left _ hz
      rw [h2 x (hsub x (by rw [hq]; exact List.mem_append_left _ (List.mem_of_getElem? hx))), bfsIn_ren _ _ fun a ha b hb => h1 a (hsub a ha) b (hsub b hb)]
      exact bfs_ren f (i + 1) _ h1 h2
end Go.Sy
