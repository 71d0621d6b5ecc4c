/- Contracts of the reference, bundle Bl1. -/
import Derived.Test.YtadimhaolhpglaaSymT
import Derived.Test.YtadimhaolhpglaaSy4
import Derived.Test.YtadimhaolhpglaaSy1
import Derived.Laws.Strings
import Derived.Sort.Walk0
import Derived.Lib.SlicesCompact
/- The data: edges, nodes, books. -/
set_option linter.unusedSimpArgs false
set_option linter.unusedVariables false
set_option linter.unusedSectionVars false
namespace Go.Sy
open Go.Proofs
set_option maxRecDepth 100000

structure Edge where
  label : ByteArray
  kind : Int
  at_ : Int
  next : Int
abbrev Edge.cs (e : Edge) : List CT := [.str e.label, .int .i64 e.kind, .int .i64 e.at_, .int .i64 e.next]
structure Nd where
  kind : Int
  peer : ByteArray
  arms : List Edge
abbrev armsT (l : List Edge) : CT := .slice false 4 (l.map Edge.cs)
abbrev Nd.cs (x : Nd) : List CT := [.int .i64 x.kind, .str x.peer, armsT x.arms]
structure Bk where
  nodes : List Nd
  names : List ByteArray
  roots : List Int
abbrev nodesT (l : List Nd) : CT := .slice false 3 (l.map Nd.cs)
abbrev namesT (l : List ByteArray) : CT := .slice false 1 (l.map fun s => [CT.str s])
abbrev intsT (l : List Int) : CT := .slice false 1 (l.map fun r => [CT.int .i64 r])
abbrev Bk.cs (b : Bk) : List CT := [nodesT b.nodes, namesT b.names, intsT b.roots]

/-- A frozen struct as a value. -/
abbrev Ag (l : List CT) : SV := .agg (l.map SC.c)
end Go.Sy

/- Contracts: names. -/
namespace Go.Sy
open Go.Proofs
abbrev C1 (c : CT) : SV := .one (.c c)
abbrev Rv (c : CT) : ST := .v (.one (.c c))
set_option maxRecDepth 100000
attribute [local irreducible] SOps Goes

def letB (x : Int) : Bool := decide (97 ≤ x) && decide (x ≤ 122)
def digB (x : Int) : Bool := decide (48 ≤ x) && decide (x ≤ 57)

theorem letter_c (x : Int) : Con Try.prog 84 [] [C1 (.int .u8 x)] (Rv (.bool (letB x))) [] := by
  refine con_of (c := _) Try.func84 rfl rfl rfl (by decide) fun w M0 H Z => ?_
  repeat' (first
    | refine g_seq ?_
    | (refine g_region ?_; refine run_ th rfl ?_)
    | refine SOps.nil ?_
    | (refine s_splitD rfl rfl (fun _ => ?_) (fun _ => ?_) <;> refine run_ th rfl ?_)
    | (refine g_end th Try.func84 (.inr ⟨_, rfl⟩) rfl rfl rfl ⟨?_, rfl⟩))
  all_goals first | (simp_all [packS, letB]; done) | (simp_all [packS, letB]; omega)

theorem digit_c (x : Int) : Con Try.prog 86 [] [C1 (.int .u8 x)] (Rv (.bool (digB x))) [] := by
  refine con_of (c := _) Try.func86 rfl rfl rfl (by decide) fun w M0 H Z => ?_
  repeat' (first
    | refine g_seq ?_
    | (refine g_region ?_; refine run_ th rfl ?_)
    | refine SOps.nil ?_
    | (refine s_splitD rfl rfl (fun _ => ?_) (fun _ => ?_) <;> refine run_ th rfl ?_)
    | (refine g_end th Try.func86 (.inr ⟨_, rfl⟩) rfl rfl rfl ⟨?_, rfl⟩))
  all_goals first | (simp_all [packS, digB]; done) | (simp_all [packS, digB]; omega)
def kwList : List ByteArray := [
  ⟨#[97, 110, 100]⟩,
  ⟨#[97, 115]⟩,
  ⟨#[97, 116]⟩,
  ⟨#[98, 111, 111, 108]⟩,
  ⟨#[99, 97, 108, 108]⟩,
  ⟨#[99, 104, 97, 110]⟩,
  ⟨#[100, 114, 111, 112]⟩,
  ⟨#[101, 108, 115, 101]⟩,
  ⟨#[101, 109, 112, 116, 121]⟩,
  ⟨#[101, 110, 100]⟩,
  ⟨#[102, 97, 105, 108]⟩,
  ⟨#[102, 97, 108, 115, 101]⟩,
  ⟨#[102, 114, 111, 109]⟩,
  ⟨#[104, 101, 97, 114]⟩,
  ⟨#[105, 102]⟩,
  ⟨#[105, 110, 116]⟩,
  ⟨#[106, 111, 105, 110]⟩,
  ⟨#[108, 101, 110]⟩,
  ⟨#[108, 101, 116]⟩,
  ⟨#[108, 105, 115, 116]⟩,
  ⟨#[108, 111, 99, 97, 108]⟩,
  ⟨#[108, 111, 115, 116]⟩,
  ⟨#[109, 111, 100]⟩,
  ⟨#[110, 111, 116]⟩,
  ⟨#[111, 112, 101, 110]⟩,
  ⟨#[111, 114]⟩,
  ⟨#[112, 114, 105, 110, 116]⟩,
  ⟨#[112, 114, 111, 99]⟩,
  ⟨#[112, 114, 111, 116, 111, 99, 111, 108]⟩,
  ⟨#[112, 117, 115, 104]⟩,
  ⟨#[114, 111, 108, 101, 115]⟩,
  ⟨#[115, 97, 121]⟩,
  ⟨#[115, 112, 97, 119, 110]⟩,
  ⟨#[115, 116, 111, 112]⟩,
  ⟨#[116, 101, 120, 116]⟩,
  ⟨#[116, 111]⟩,
  ⟨#[116, 114, 117, 101]⟩,
  ⟨#[117, 110, 105, 116]⟩,
  ⟨#[119, 105, 116, 104]⟩
]

def kwB (s : ByteArray) : Bool := kwList.any fun k => decide (s = k)

set_option maxHeartbeats 4000000 in
theorem keyword_c (s : ByteArray) : Con Try.prog 85 [] [C1 (.str s)] (Rv (.bool (kwB s))) [] := by
  refine con_of (c := _) Try.func85 rfl rfl rfl (by decide) fun w M0 H Z => ?_
  repeat' (first
    | refine g_seq ?_
    | refine g_block ?_
    | refine g_inBlock ?_
    | refine g_skip ?_
    | refine g_exit rfl ?_
    | refine g_goto rfl ?_
    | refine g_label ?_
    | refine g_scope ?_
    | refine g_inScope ?_
    | (refine g_region ?_; refine run_ th rfl ?_)
    | refine SOps.nil ?_
    | (refine g_ifD rfl (fun _ => ?_) (fun _ => ?_))
    | (refine g_end th Try.func85 (.inr ⟨_, rfl⟩) rfl rfl rfl ⟨?_, rfl⟩)
    | refine g_if_true rfl ?_
    | refine g_if_false rfl ?_)
  any_goals (rename_i h; subst h; rfl)
  simp [packS, kwB, kwList, *]
end Go.Sy

/- Contracts: a name. -/
namespace Go.Sy
open Go.Proofs
set_option maxRecDepth 100000
attribute [local irreducible] SOps Goes

def nchB (c : UInt8) : Bool := letB (c.toNat : Int) || digB (c.toNat : Int)
/-- A name (P1.1). -/
def nameB (s : ByteArray) : Bool :=
  match s.data.toList with
  | [] => false
  | c :: r => decide (r.length < 12) && (letB (c.toNat : Int) && (!kwB s && r.all nchB))

theorem sz_data (s : ByteArray) : s.data.toList.length = s.size := by simp

theorem nameB_cons {s : ByteArray} {c : UInt8} {r : List UInt8} (h : s.data.toList = c :: r) :
    nameB s = (decide (r.length < 12) && (letB (c.toNat : Int) && (!kwB s && r.all nchB))) := by
  unfold nameB; rw [h]

set_option maxHeartbeats 4000000 in
theorem may_c (s : ByteArray) : Con Try.prog 53 [] [C1 (.str s)] (Rv (.bool (nameB s))) [] := by
  have hsz := sz_data s
  cases hl : s.data.toList with
  | nil =>
    have h0 : s.size = 0 := by rw [← hsz, hl]; rfl
    have hn : nameB s = false := by unfold nameB; rw [hl]
    refine con_of (c := _) Try.func53 rfl rfl rfl (by decide) fun w M0 H Z => ?_
    repeat' (first
     | refine gc_ rfl ?_
     | (refine g_region ?_; refine run_ th rfl ?_)
     | (refine g_drawC mix rfl rfl ?_; refine drun_ th rfl ?_)
     | (refine g_drawEC mix rfl rfl ?_; refine erun_ th rfl ?_)
     | refine SOps.nil ?_
     | refine DOps.nil ?_
     | refine EOps.nil ?_ rfl rfl
     | (refine s_split rfl rfl (fun hb => ?_) (fun hb => ?_) <;> (try simp only [hbL] at hb) <;> first | (exfalso; omega) | refine run_ th rfl ?_)
     | (refine d_split rfl rfl rfl (fun hb => ?_) (fun hb => ?_) <;> (try simp only [hbL] at hb) <;> first | (exfalso; omega) | refine drun_ th rfl ?_)
     | (refine g_if rfl (fun hb => ?_) (fun hb => ?_) <;> (try simp only [hbL] at hb) <;> (try (exfalso; omega)))
     | refine g_end th Try.func53 (.inr ⟨_, rfl⟩) rfl rfl rfl ⟨?_, rfl⟩)
    · simp [packS, hn]
    all_goals (exfalso; omega)
  | cons c r =>
    have hr : r.length + 1 = s.size := by rw [← hsz, hl]; rfl
    have hn := nameB_cons hl
    have hc : s.data.toList[0]? = some c := by rw [hl]; rfl
    refine con_of (c := _) Try.func53 rfl rfl rfl (by decide) fun w M0 H Z => ?_
    repeat' (first
     | refine gc_ rfl ?_
     | (refine g_region ?_; refine run_ th rfl ?_)
     | (refine g_drawC mix rfl rfl ?_; refine drun_ th rfl ?_)
     | (refine g_drawEC mix rfl rfl ?_; refine erun_ th rfl ?_)
     | refine SOps.nil ?_
     | refine DOps.nil ?_
     | refine EOps.nil ?_ rfl rfl
     | (refine s_split rfl rfl (fun hb => ?_) (fun hb => ?_) <;> (try simp only [hbL] at hb) <;> first | (exfalso; omega) | refine run_ th rfl ?_)
     | (refine d_split rfl rfl rfl (fun hb => ?_) (fun hb => ?_) <;> (try simp only [hbL] at hb) <;> first | (exfalso; omega) | refine drun_ th rfl ?_)
     | (refine g_if rfl (fun hb => ?_) (fun hb => ?_) <;> (try simp only [hbL] at hb) <;> (try (exfalso; omega)))
     | refine g_end th Try.func53 (.inr ⟨_, rfl⟩) rfl rfl rfl ⟨?_, rfl⟩
     | (refine s_str th rfl rfl rfl rfl rfl rfl rfl 0 c rfl hc ?_; refine run_ th rfl ?_)
     | (refine s_call (letter_c _) [] rfl rfl rfl rfl rfl rfl rfl rfl rfl rfl ?_; refine run_ th rfl ?_)
     | (refine s_call (keyword_c _) [] rfl rfl rfl rfl rfl rfl rfl rfl rfl rfl ?_; refine run_ th rfl ?_))
    · simp [packS, hn, show ¬ r.length < 12 by omega]
    · simp [packS, hn, hb]
    · simp [packS, hn, hb]
    · rename_i hl1 hk1
      refine g_loop1 (fun k : Nat => k ≤ r.length ∧ (r.take k).all nchB = true) (fun k => [(0, .v (C1 (.str s))), (3, .v (C1 (.int .i64 (k + 1 : Int))))]) (fun _ => []) (fun k => r.length - k) 0 ⟨Nat.zero_le _, rfl⟩
        (fun a w h => h.sub (by exact ⟨⟨_, rfl, .refl _⟩, ⟨_, rfl, le_int rfl⟩, trivial⟩) (by exact trivial) rfl rfl rfl) (fun k hk ih => ?_)
      obtain ⟨hk, hok⟩ := hk
      by_cases hlt : k < r.length
      · have hx : s.data.toList[k + 1]? = some r[k] := by rw [hl]; simp [hlt]
        have hnx : (r.take (k + 1)).all nchB = nchB r[k] := by
          rw [List.take_succ_eq_append_getElem hlt, List.all_append, hok]; simp
        repeat' (first
         | refine gc_ rfl ?_
         | (refine g_region ?_; refine run_ th rfl ?_)
         | (refine g_drawC mix rfl rfl ?_; refine drun_ th rfl ?_)
         | (refine g_drawEC mix rfl rfl ?_; refine erun_ th rfl ?_)
         | refine SOps.nil ?_
         | refine DOps.nil ?_
         | refine EOps.nil ?_ rfl rfl
         | (refine s_split rfl rfl (fun hb => ?_) (fun hb => ?_) <;> (try simp only [hbL] at hb) <;> first | (exfalso; omega) | refine run_ th rfl ?_)
         | (refine d_split rfl rfl rfl (fun hb => ?_) (fun hb => ?_) <;> (try simp only [hbL] at hb) <;> first | (exfalso; omega) | refine drun_ th rfl ?_)
         | (refine g_if rfl (fun hb => ?_) (fun hb => ?_) <;> (try simp only [hbL] at hb) <;> (try (exfalso; omega)))
         | refine g_end th Try.func53 (.inr ⟨_, rfl⟩) rfl rfl rfl ⟨?_, rfl⟩
         | (refine s_str th rfl rfl rfl rfl rfl rfl rfl (k + 1) r[k] rfl hx ?_; refine run_ th rfl ?_)
         | (refine s_call (letter_c _) [] rfl rfl rfl rfl rfl rfl rfl rfl rfl rfl ?_; refine run_ th rfl ?_)
         | (refine s_call (digit_c _) [] rfl rfl rfl rfl rfl rfl rfl rfl rfl rfl ?_; refine run_ th rfl ?_)
         | (refine s_add rfl rfl rfl rfl rfl rfl (by omega) ?_; refine run_ th rfl ?_))
        · have : r.all nchB = false := by
            rw [List.all_eq_false]
            exact ⟨r[k], List.getElem_mem hlt, by simp [nchB, *]⟩
          simp [packS, hn, this]
        · exact g_sub (by exact ⟨⟨_, rfl, .refl _⟩, ⟨_, rfl, le_int (by omega)⟩, trivial⟩) (by exact trivial) rfl rfl rfl (ih (k + 1) ⟨hlt, by rw [hnx]; simp [nchB, *]⟩ (by omega))
        · exact g_sub (by exact ⟨⟨_, rfl, .refl _⟩, ⟨_, rfl, le_int (by omega)⟩, trivial⟩) (by exact trivial) rfl rfl rfl (ih (k + 1) ⟨hlt, by rw [hnx]; simp [nchB, *]⟩ (by omega))
      · have hke : k = r.length := by omega
        subst hke
        rw [List.take_length] at hok
        repeat' (first
         | refine gc_ rfl ?_
         | (refine g_region ?_; refine run_ th rfl ?_)
         | (refine g_drawC mix rfl rfl ?_; refine drun_ th rfl ?_)
         | (refine g_drawEC mix rfl rfl ?_; refine erun_ th rfl ?_)
         | refine SOps.nil ?_
         | refine DOps.nil ?_
         | refine EOps.nil ?_ rfl rfl
         | (refine s_split rfl rfl (fun hb => ?_) (fun hb => ?_) <;> (try simp only [hbL] at hb) <;> first | (exfalso; omega) | refine run_ th rfl ?_)
         | (refine d_split rfl rfl rfl (fun hb => ?_) (fun hb => ?_) <;> (try simp only [hbL] at hb) <;> first | (exfalso; omega) | refine drun_ th rfl ?_)
         | (refine g_if rfl (fun hb => ?_) (fun hb => ?_) <;> (try simp only [hbL] at hb) <;> (try (exfalso; omega)))
         | refine g_end th Try.func53 (.inr ⟨_, rfl⟩) rfl rfl rfl ⟨?_, rfl⟩)
        · have : r.length < 12 := by omega
          simp [packS, hn, this, hok, hk1, *]
end Go.Sy

/- The plain law of local types and protocols: what is valid, what is reached, what is trimmed. -/
namespace Go.Sy

/-! ### Data -/
structure Arm where
  label : ByteArray
  kind : Int
  name : ByteArray
  next : Int
deriving DecidableEq
abbrev Arm.cs (a : Arm) : List CT := [.str a.label, .int .i64 a.kind, .str a.name, .int .i64 a.next]
abbrev armsC (l : List Arm) : CT := .slice false 4 (l.map Arm.cs)
structure Trn where
  kind : Int
  peer : ByteArray
  arms : List Arm
deriving DecidableEq
abbrev Trn.cs (t : Trn) : List CT := [.int .i64 t.kind, .str t.peer, armsC t.arms]
structure Loc where
  name : ByteArray
  turns : List Trn
abbrev turnsC (l : List Trn) : CT := .slice false 3 (l.map Trn.cs)
abbrev Loc.cs (l : Loc) : List CT := [.str l.name, turnsC l.turns]
structure Pnt where
  from_ : ByteArray
  to : ByteArray
  arms : List Arm
deriving DecidableEq
abbrev Pnt.cs (x : Pnt) : List CT := [.str x.from_, .str x.to, armsC x.arms]
structure Prt where
  name : ByteArray
  roles : List ByteArray
  points : List Pnt
abbrev pointsC (l : List Pnt) : CT := .slice false 3 (l.map Pnt.cs)
abbrev Prt.cs (p : Prt) : List CT := [.str p.name, namesT p.roles, pointsC p.points]

/-! ### What is valid -/
/-- Ahead of the first dot, and behind it. -/
def cutB : List UInt8 → Option (List UInt8 × List UInt8)
  | [] => none
  | c :: r => if c = 46 then some ([], r) else (cutB r).map fun p => (c :: p.1, p.2)
def typeB (s : ByteArray) : Bool := match cutB s.data.toList with
  | none => nameB s
  | some (a, b) => nameB ⟨a.toArray⟩ && nameB ⟨b.toArray⟩
def carB (kind : Int) (name : ByteArray) : Bool := if kind = 5 then typeB name else decide (0 ≤ kind) && (decide (kind < 5) && decide (name = ⟨#[]⟩))
def armB (n : Int) (a : Arm) : Bool := nameB a.label && (carB a.kind a.name && (decide (0 ≤ a.next) && decide (a.next < n)))
def armsOK (n : Int) (l : List Arm) : Bool := decide (1 ≤ l.length) && (decide (l.length ≤ 6) && (l.all (armB n) && decide ((l.map Arm.label).Nodup)))
def trnB (n : Int) (t : Trn) : Bool :=
  if t.kind = 0 then decide (t.peer = ⟨#[]⟩) && t.arms.isEmpty else if t.kind = 1 ∨ t.kind = 2 then nameB t.peer && armsOK n t.arms else false
def locB (l : Loc) : Bool := decide (1 ≤ l.turns.length) && (decide (l.turns.length ≤ 40) && l.turns.all (trnB l.turns.length))

/-! ### By rising labels -/
def insA (a : Arm) : List Arm → List Arm
  | [] => [a]
  | b :: l => if sLt a.label b.label then a :: b :: l else b :: insA a l
def risA (l : List Arm) : List Arm := l.foldl (fun out a => insA a out) []

/-! ### What is reached -/
abbrev Grp := List (List Arm)
def armsAt (g : Grp) (x : Int) : List Arm := g.getD x.toNat []
def bfsIn (out : List Int) : List Arm → List Int
  | [] => out
  | a :: l => bfsIn (if a.next ∈ out then out else out ++ [a.next]) l
def bfs (g : Grp) : Nat → Nat → List Int → List Int
  | 0, _, out => out
  | f + 1, i, out => match out[i]? with
    | none => out
    | some x => bfs g f (i + 1) (bfsIn out (risA (armsAt g x)))
def reachG (g : Grp) : List Int := bfs g (g.length + 1) 0 [0]
def Loc.g (l : Loc) : Grp := l.turns.map Trn.arms
def movA (row : List Int) (l : List Arm) : List Arm := (risA l).map fun a => { a with next := ((row.idxOf a.next : Nat) : Int) }
def noTrn : Trn := ⟨0, ⟨#[]⟩, []⟩
def trnAt (l : Loc) (x : Int) : Trn := l.turns.getD x.toNat noTrn
def trimT (l : Loc) : Loc := ⟨l.name, (reachG l.g).map fun x => ⟨(trnAt l x).kind, (trnAt l x).peer, movA (reachG l.g) (trnAt l x).arms⟩⟩
def walkG (g : Grp) : Int → List ByteArray → Option Int
  | x, [] => some x
  | x, s :: l => match (armsAt g x).find? fun a => decide (a.label = s) with
    | none => none
    | some a => walkG g a.next l

/-! ### A graph under other numbers -/
def renA (φ : Int → Int) (a : Arm) : Arm := { a with next := φ a.next }
theorem bfsIn_app : ∀ (l : List Arm) (out : List Int), ∃ r, bfsIn out l = out ++ r
  | [], out => ⟨[], by simp [bfsIn]⟩
  | a :: l, out => by
    obtain ⟨r, hr⟩ := bfsIn_app l (if a.next ∈ out then out else out ++ [a.next])
    rw [bfsIn, hr]
    split
    · exact ⟨r, rfl⟩
    · exact ⟨a.next :: r, by simp⟩
theorem bfsIn_mem : ∀ (l : List Arm) (out : List Int) (x : Int), x ∈ bfsIn out l ↔ x ∈ out ∨ ∃ a ∈ l, a.next = x
  | [], out, x => by simp [bfsIn]
  | a :: l, out, x => by
    rw [bfsIn, bfsIn_mem l]
    by_cases h : a.next ∈ out
    · rw [if_pos h]
      constructor
      · rintro (h1 | ⟨b, hb, e⟩)
        · exact .inl h1
        · exact .inr ⟨b, List.mem_cons_of_mem _ hb, e⟩
      · rintro (h1 | ⟨b, hb, e⟩)
        · exact .inl h1
        · rcases List.mem_cons.1 hb with rfl | hb
          · exact .inl (e ▸ h)
          · exact .inr ⟨b, hb, e⟩
    · rw [if_neg h]
      simp only [List.mem_append, List.mem_cons, List.not_mem_nil, or_false, exists_eq_or_imp]
      constructor
      · rintro ((h1 | h1) | h1)
        · exact .inl h1
        · exact .inr (.inl h1.symm)
        · exact .inr (.inr h1)
      · rintro (h1 | h1 | h1)
        · exact .inl (.inl h1)
        · exact .inl (.inr h1.symm)
        · exact .inr h1
theorem bfs_app (g : Grp) : ∀ (f i : Nat) (out : List Int), ∃ r, bfs g f i out = out ++ r
  | 0, _, out => ⟨[], by simp [bfs]⟩
  | f + 1, i, out => by
    rw [bfs]
    cases out[i]? with
    | none => exact ⟨[], by simp⟩
    | some x =>
      obtain ⟨r, hr⟩ := bfsIn_app (risA (armsAt g x)) out
      obtain ⟨q, hq⟩ := bfs_app g f (i + 1) (bfsIn out (risA (armsAt g x)))
      exact ⟨r ++ q, by simp only; rw [hq, hr, List.append_assoc]⟩
/-- What is reached in one graph is reached in the other, under its other number. -/
theorem bfsIn_ren {φ : Int → Int} : ∀ (l : List Arm) (out : List Int), (∀ x ∈ bfsIn out l, ∀ y ∈ bfsIn out l, φ x = φ y → x = y) → bfsIn (out.map φ) (l.map (renA φ)) = (bfsIn out l).map φ
  | [], out, _ => rfl
  | a :: l, out, h => by
    rw [List.map_cons, bfsIn, bfsIn]
    have hin : (renA φ a).next ∈ out.map φ ↔ a.next ∈ out := by
      constructor
      · intro hm
        obtain ⟨x, hx, e⟩ := List.mem_map.1 hm
        have : x = a.next := h x ((bfsIn_mem _ _ _).2 (.inl hx)) a.next ((bfsIn_mem _ _ _).2 (.inr ⟨a, List.mem_cons_self, rfl⟩)) e
        rw [← this]; exact hx
      · exact fun hm => List.mem_map.2 ⟨a.next, hm, rfl⟩
    by_cases hm : a.next ∈ out
    · rw [if_pos (hin.2 hm), if_pos hm]
      exact bfsIn_ren l out (by rw [bfsIn, if_pos hm] at h; exact h)
    · rw [if_neg (fun e => hm (hin.1 e)), if_neg hm]
      have := bfsIn_ren l (out ++ [a.next]) (by rw [bfsIn, if_neg hm] at h; exact h)
      rwa [List.map_append] at this
theorem bfs_ren {g k : Grp} {φ : Int → Int} : ∀ (f i : Nat) (out : List Int), (∀ x ∈ bfs g f i out, ∀ y ∈ bfs g f i out, φ x = φ y → x = y) → (∀ x ∈ bfs g f i out, risA (armsAt k (φ x)) = (risA (armsAt g x)).map (renA φ)) → bfs k f i (out.map φ) = (bfs g f i out).map φ
  | 0, _, _, _, _ => rfl
  | f + 1, i, out, h1, h2 => by
    rw [bfs, bfs, List.getElem?_map]
    cases hx : out[i]? with
    | none => rfl
    | some x =>
      simp only [Option.map_some]
      have hE : bfs g (f + 1) i out = bfs g f (i + 1) (bfsIn out (risA (armsAt g x))) := by rw [bfs, hx]
      rw [hE] at h1 h2
      obtain ⟨r, hr⟩ := bfs_app g f (i + 1) (bfsIn out (risA (armsAt g x)))
      obtain ⟨q, hq⟩ := bfsIn_app (risA (armsAt g x)) out
      have hsub : ∀ z ∈ bfsIn out (risA (armsAt g x)), z ∈ bfs g f (i + 1) (bfsIn out (risA (armsAt g x))) := fun z hz => by rw [hr]; exact List.mem_append_left _ hz
      rw [h2 x (hsub x (by rw [hq]; exact List.mem_append_left _ (List.mem_of_getElem? hx))), bfsIn_ren _ _ fun a ha b hb => h1 a (hsub a ha) b (hsub b hb)]
      exact bfs_ren f (i + 1) _ h1 h2
end Go.Sy

/- The plain law of local types: sorted arms; what is reached is closed, without repetition, in range. -/
namespace Go.Sy

/-! ### Sorted arms -/
theorem insA_perm (a : Arm) : ∀ l : List Arm, (insA a l).Perm (a :: l)
  | [] => .refl _
  | b :: l => by
    rw [insA]
    split
    · exact .refl _
    · exact ((insA_perm a l).cons b).trans (.swap a b l)
theorem risA_perm (l : List Arm) : (risA l).Perm l := by
  have h : ∀ (l out : List Arm), (l.foldl (fun out a => insA a out) out).Perm (out ++ l) := by
    intro l
    induction l with
    | nil => intro out; simp
    | cons a l ih =>
      intro out
      rw [List.foldl_cons]
      refine (ih _).trans (((insA_perm a out).append_right l).trans ?_)
      exact (List.perm_middle (a := a) (l₁ := out) (l₂ := l)).symm
  have := h l []
  rw [List.nil_append] at this
  exact this
theorem risA_mem {l : List Arm} {a : Arm} : a ∈ risA l ↔ a ∈ l := (risA_perm l).mem_iff
theorem risA_len (l : List Arm) : (risA l).length = l.length := (risA_perm l).length_eq
/-- No label stands ahead of a smaller one. -/
def RisW (l : List Arm) : Prop := l.Pairwise fun a b => sLt b.label a.label = false
theorem insA_end {a : Arm} : ∀ {l : List Arm}, (∀ b ∈ l, sLt a.label b.label = false) → insA a l = l ++ [a]
  | [], _ => rfl
  | b :: l, h => by
    rw [insA, if_neg (by rw [h b List.mem_cons_self]; decide), insA_end fun c hc => h c (List.mem_cons_of_mem _ hc)]; rfl
/-- What is sorted stays as it is. -/
theorem risA_of {l : List Arm} (h : RisW l) : risA l = l := by
  have key : ∀ (l out : List Arm), RisW (out ++ l) → l.foldl (fun out a => insA a out) out = out ++ l := by
    intro l
    induction l with
    | nil => intro out _; simp
    | cons a l ih =>
      intro out ho
      have h1 : ∀ b ∈ out, sLt a.label b.label = false := fun b hb => (List.pairwise_append.1 ho).2.2 b hb a List.mem_cons_self
      rw [List.foldl_cons, insA_end h1, ih _ (by simpa using ho)]
      simp
  have := key l [] (by simpa using h)
  rw [List.nil_append] at this
  exact this
theorem insA_ris (hir : ∀ s, sLt s s = false) (htr : ∀ {s t u}, sLt s t = true → sLt t u = true → sLt s u = true) {a : Arm} : ∀ {l : List Arm}, RisW l → RisW (insA a l)
  | [], _ => by simp [insA, RisW]
  | b :: l, h => by
    have has : ∀ {s t}, sLt s t = true → sLt t s = false := fun {s t} h1 => by
      cases h2 : sLt t s with
      | false => rfl
      | true => have := htr h1 h2; rw [hir] at this; cases this
    rw [insA]
    obtain ⟨h1, h2⟩ := List.pairwise_cons.1 h
    split
    · rename_i hab
      refine List.pairwise_cons.2 ⟨fun c hc => ?_, h⟩
      rcases List.mem_cons.1 hc with rfl | hc
      · exact has hab
      · cases h3 : sLt c.label a.label with
        | false => rfl
        | true => have := htr h3 hab; rw [h1 c hc] at this; cases this
    · rename_i hab
      refine List.pairwise_cons.2 ⟨fun c hc => ?_, insA_ris hir htr h2⟩
      rcases (insA_perm a l).mem_iff.1 hc |> List.mem_cons.1 with rfl | hc
      · simpa using hab
      · exact h1 c hc
theorem risA_ris (hir : ∀ s, sLt s s = false) (htr : ∀ {s t u}, sLt s t = true → sLt t u = true → sLt s u = true) (l : List Arm) : RisW (risA l) := by
  have h : ∀ (l out : List Arm), RisW out → RisW (l.foldl (fun out a => insA a out) out) := by
    intro l
    induction l with
    | nil => intro out ho; exact ho
    | cons a l ih => intro out ho; exact ih _ (insA_ris hir htr ho)
  exact h l [] (by simp [RisW])

/-! ### What is reached -/
/-- All arms lead to places of the graph. -/
def InG (g : Grp) : Prop := ∀ x a, a ∈ armsAt g x → 0 ≤ a.next ∧ a.next < (g.length : Int)
structure Reached (g : Grp) (out : List Int) : Prop where
  nodup : out.Nodup
  range : ∀ x ∈ out, 0 ≤ x ∧ x < (g.length : Int)
theorem bfsIn_ok {g : Grp} : ∀ (l : List Arm) {out : List Int}, Reached g out → (∀ a ∈ l, 0 ≤ a.next ∧ a.next < (g.length : Int)) → Reached g (bfsIn out l)
  | [], _, h, _ => h
  | a :: l, out, h, hl => by
    rw [bfsIn]
    refine bfsIn_ok l ?_ fun b hb => hl b (List.mem_cons_of_mem _ hb)
    split
    · exact h
    · rename_i hn
      refine ⟨List.nodup_append.2 ⟨h.nodup, by simp, fun x hx y hy e => ?_⟩, fun x hx => ?_⟩
      · rw [List.mem_singleton] at hy; rw [e, hy] at hx; exact hn hx
      · rcases List.mem_append.1 hx with hx | hx
        · exact h.range x hx
        · rw [List.mem_singleton] at hx; rw [hx]; exact hl a List.mem_cons_self
theorem nodup_lt : ∀ (n : Nat) (l : List Nat), l.Nodup → (∀ k ∈ l, k < n) → l.length ≤ n
  | 0, l, _, h => by
    cases l with
    | nil => simp
    | cons a l => exact absurd (h a List.mem_cons_self) (by omega)
  | n + 1, l, hd, h => by
    by_cases hm : n ∈ l
    · have h1 := nodup_lt n (l.erase n) (hd.erase n) fun k hk => by
        have h2 := h k (List.mem_of_mem_erase hk)
        have h3 : k ≠ n := fun e => by subst e; exact (hd.not_mem_erase) hk
        omega
      rw [List.length_erase_of_mem hm] at h1
      omega
    · have := nodup_lt n l hd fun k hk => by
        have h2 := h k hk
        have h3 : k ≠ n := fun e => hm (e ▸ hk)
        omega
      omega
theorem Reached.len {g : Grp} {out : List Int} (h : Reached g out) : out.length ≤ g.length := by
  have h1 : (out.map Int.toNat).Nodup := by
    rw [List.nodup_iff_pairwise_ne, List.pairwise_map]
    refine List.Pairwise.imp_of_mem (fun {a b} ha hb hab => ?_) (List.nodup_iff_pairwise_ne.1 h.nodup)
    have := h.range a ha; have := h.range b hb
    omega
  have h2 : ∀ k ∈ out.map Int.toNat, k < g.length := fun k hk => by
    obtain ⟨x, hx, rfl⟩ := List.mem_map.1 hk
    have := h.range x hx; omega
  simpa using nodup_lt g.length _ h1 h2
/-- The arms of the first k places lead to places that were met. -/
def ClosedTo (g : Grp) (k : Nat) (out : List Int) : Prop := ∀ j x, j < k → out[j]? = some x → ∀ a ∈ armsAt g x, a.next ∈ out
theorem bfs_ok {g : Grp} (hg : InG g) : ∀ (f i : Nat) (out : List Int), Reached g out → ClosedTo g i out → i ≤ out.length → g.length < f + i → Reached g (bfs g f i out) ∧ ClosedTo g (bfs g f i out).length (bfs g f i out)
  | 0, i, out, h, _, hi, hf => by have := h.len; omega
  | f + 1, i, out, h, hc, hi, hf => by
    rw [bfs]
    cases hx : out[i]? with
    | none =>
      have : out.length ≤ i := List.getElem?_eq_none_iff.1 hx
      show Reached g out ∧ ClosedTo g out.length out
      exact ⟨h, fun j x hj => hc j x (by omega)⟩
    | some x =>
      simp only
      have hlt := (List.getElem?_eq_some_iff.1 hx).1
      have h1 := bfsIn_ok (risA (armsAt g x)) h fun a ha => hg x a (risA_mem.1 ha)
      obtain ⟨r, hr⟩ := bfsIn_app (risA (armsAt g x)) out
      refine bfs_ok hg f (i + 1) _ h1 (fun j y hj hy a ha => ?_) (by rw [hr, List.length_append]; omega) (by omega)
      rw [hr, List.getElem?_append_left (by omega)] at hy
      rw [bfsIn_mem]
      by_cases hji : j = i
      · subst hji
        rw [hx] at hy; injection hy with hy; subst hy
        exact .inr ⟨a, risA_mem.2 ha, rfl⟩
      · exact .inl (hc j y (by omega) hy a ha)
theorem reach_ok {g : Grp} (hg : InG g) (h0 : 0 < g.length) : Reached g (reachG g) ∧ ClosedTo g (reachG g).length (reachG g) :=
  bfs_ok hg _ 0 [0] ⟨by simp, fun x hx => by rw [List.mem_singleton] at hx; subst hx; omega⟩ (fun j x hj => by omega) (by simp) (by omega)
/-- More rounds change nothing. -/
theorem bfs_more {g : Grp} : ∀ (f i : Nat) (out : List Int), (bfs g f i out).length < f + i → ∀ d, bfs g (f + d) i out = bfs g f i out
  | 0, i, out, h, d => by
    rw [bfs] at h
    have : out[i]? = none := List.getElem?_eq_none (by omega)
    cases d with
    | zero => rfl
    | succ d => simp only [Nat.zero_add, bfs, this]
  | f + 1, i, out, h, d => by
    rw [show f + 1 + d = (f + d) + 1 by omega, bfs, bfs]
    rw [bfs] at h
    cases hx : out[i]? with
    | none => rfl
    | some x =>
      rw [hx] at h
      simp only at h ⊢
      exact bfs_more f (i + 1) _ (by omega) d
theorem reach_first (g : Grp) : ∃ r, reachG g = 0 :: r := by
  obtain ⟨r, hr⟩ := bfs_app g (g.length + 1) 0 [0]
  exact ⟨r, by rw [reachG, hr]; rfl⟩
end Go.Sy

/- The plain law of local types: what Trim makes: valid, its own Trim, labels lead to the corresponding turns. -/
namespace Go.Sy

section
variable {g : Grp}
/-- The graph that is trimmed. -/
def trimG (g : Grp) : Grp := (reachG g).map fun x => movA (reachG g) (armsAt g x)
def plc (row : List Int) (x : Int) : Int := ((row.idxOf x : Nat) : Int)
theorem plc_inj {row : List Int} {x y : Int} (hx : x ∈ row) (hy : y ∈ row) (h : plc row x = plc row y) : x = y := by
  have h : row.idxOf x = row.idxOf y := by unfold plc at h; omega
  have h1 := List.getElem_idxOf (List.idxOf_lt_length_iff.2 hx)
  have h2 := List.getElem_idxOf (List.idxOf_lt_length_iff.2 hy)
  rw [← h1, ← h2]
  simp only [h]
theorem movA_ren (row : List Int) (l : List Arm) : movA row l = (risA l).map (renA (plc row)) := rfl
theorem trimG_at {x : Int} (hx : x ∈ reachG g) : armsAt (trimG g) (plc (reachG g) x) = movA (reachG g) (armsAt g x) := by
  have hlt := List.idxOf_lt_length_iff.2 hx
  unfold armsAt plc trimG
  rw [Int.toNat_natCast, List.getD_eq_getElem?_getD, List.getElem?_map, List.getElem?_eq_getElem hlt, List.getElem_idxOf hlt]
  rfl
theorem risW_ren {φ : Int → Int} {l : List Arm} (h : RisW l) : RisW (l.map (renA φ)) := by
  unfold RisW at h ⊢
  rw [List.pairwise_map]
  exact h
theorem bfs_enough {g : Grp} {f1 f2 i : Nat} {out : List Int} (h1 : (bfs g f1 i out).length < f1 + i) (h2 : (bfs g f2 i out).length < f2 + i) : bfs g f1 i out = bfs g f2 i out := by
  rcases Nat.le_total f1 f2 with h | h
  · have := bfs_more f1 i out h1 (f2 - f1)
    rw [show f1 + (f2 - f1) = f2 by omega] at this
    exact this.symm
  · have := bfs_more f2 i out h2 (f1 - f2)
    rw [show f2 + (f1 - f2) = f1 by omega] at this
    exact this
variable (hir : ∀ s, sLt s s = false) (htr : ∀ {s t u}, sLt s t = true → sLt t u = true → sLt s u = true)
include hir htr
theorem risA_mov (row : List Int) (l : List Arm) : risA (movA row l) = movA row l := by
  rw [movA_ren, risA_of (risW_ren (risA_ris hir htr l))]
/-- A graph of which the places reached are those of another one under other numbers. -/
theorem reach_ren {k : Grp} {φ : Int → Int} (hg : InG g) (h0 : 0 < g.length) (hφ0 : φ 0 = 0) (hi : ∀ x ∈ reachG g, ∀ y ∈ reachG g, φ x = φ y → x = y)
    (hk : ∀ x ∈ reachG g, risA (armsAt k (φ x)) = (risA (armsAt g x)).map (renA φ)) (hl : (reachG g).length ≤ k.length) : reachG k = (reachG g).map φ := by
  have h1 := bfs_ren (k := k) (g.length + 1) 0 [0] hi hk
  have h2 := (reach_ok hg h0).1.len
  rw [List.map_cons, List.map_nil, hφ0] at h1
  have h3 : (bfs k (g.length + 1) 0 [0]).length = (reachG g).length := by rw [h1, List.length_map]; rfl
  show bfs k (k.length + 1) 0 [0] = _
  -- rounds enough in either
  have h4 : (bfs k ((reachG g).length + 1) 0 [0]) = (bfs g ((reachG g).length + 1) 0 [0]).map φ := by
    have hs : bfs g ((reachG g).length + 1) 0 [0] = reachG g := by
      have key : ∀ d, bfs g ((reachG g).length + 1 + d) 0 [0] = reachG g → bfs g ((reachG g).length + 1) 0 [0] = reachG g := by
        intro d
        induction d with
        | zero => exact id
        | succ d ih =>
          intro h
          refine ih ?_
          have hle : (bfs g ((reachG g).length + 1 + d) 0 [0]).length ≤ (reachG g).length := by
            have happ : ∀ (f i : Nat) (out : List Int), (bfs g f i out).length ≤ (bfs g (f + 1) i out).length := by
              intro f
              induction f with
              | zero => intro i out; obtain ⟨r, hr⟩ := bfs_app g 1 i out; rw [hr]; simp [bfs]
              | succ f ih2 =>
                intro i out
                rw [bfs, bfs]
                cases out[i]? with
                | none => exact Nat.le_refl _
                | some x => exact ih2 _ _
            have := happ ((reachG g).length + 1 + d) 0 [0]
            rw [show (reachG g).length + 1 + d + 1 = (reachG g).length + 1 + (d + 1) by omega, h] at this
            exact this
          have := bfs_more (g := g) ((reachG g).length + 1 + d) 0 [0] (by omega) 1
          rw [← this, show (reachG g).length + 1 + d + 1 = (reachG g).length + 1 + (d + 1) by omega, h]
      exact key (g.length - (reachG g).length) (by rw [show (reachG g).length + 1 + (g.length - (reachG g).length) = g.length + 1 by omega]; rfl)
    have := bfs_ren (k := k) ((reachG g).length + 1) 0 [0] (by rw [hs]; exact hi) (by rw [hs]; exact hk)
    rwa [List.map_cons, List.map_nil, hφ0] at this
  have hs2 : (bfs k ((reachG g).length + 1) 0 [0]).length = (reachG g).length := by
    rw [bfs_enough (f2 := g.length + 1) ?_ ?_]
    · exact h3
    · have := bfs_app k ((reachG g).length + 1) 0 [0]
      have h5 := congrArg List.length h4
      rw [List.length_map] at h5
      have h6 : (bfs g ((reachG g).length + 1) 0 [0]).length ≤ (reachG g).length := by
        have hmono : ∀ (f d i : Nat) (out : List Int), (bfs g f i out).length ≤ (bfs g (f + d) i out).length := by
          intro f
          induction f with
          | zero => intro d i out; obtain ⟨r, hr⟩ := bfs_app g d i out; rw [Nat.zero_add, hr]; simp [bfs]
          | succ f ih =>
            intro d i out
            rw [show f + 1 + d = (f + d) + 1 by omega, bfs, bfs]
            cases out[i]? with
            | none => exact Nat.le_refl _
            | some x => exact ih d _ _
        have := hmono ((reachG g).length + 1) (g.length - (reachG g).length) 0 [0]
        rw [show (reachG g).length + 1 + (g.length - (reachG g).length) = g.length + 1 by omega] at this
        exact this
      omega
    · rw [h3]; omega
  have h7 := bfs_more ((reachG g).length + 1) 0 [0] (g := k) (by omega) (k.length - (reachG g).length)
  rw [show (reachG g).length + 1 + (k.length - (reachG g).length) = k.length + 1 by omega] at h7
  rw [h7, bfs_enough (f2 := g.length + 1) (by omega) (by rw [h3]; omega), h1]
  rfl
end
end Go.Sy

/- The plain law: the order of texts. -/
namespace Go.Sy

/-! The order of labels. -/
theorem bl_irr : ∀ l : List UInt8, Op.bytesLess l l = false
  | [] => rfl
  | a :: l => by simp [Op.bytesLess, bl_irr l]
theorem bl_trans : ∀ {x y z : List UInt8}, Op.bytesLess x y = true → Op.bytesLess y z = true → Op.bytesLess x z = true
  | _, [], _, h, _ => by cases ‹List UInt8› <;> simp [Op.bytesLess] at h
  | _, _ :: _, [], _, h => by simp [Op.bytesLess] at h
  | [], _ :: _, _ :: _, _, _ => rfl
  | a :: x, b :: y, c :: z, h1, h2 => by
    simp only [Op.bytesLess, Bool.or_eq_true, decide_eq_true_eq, Bool.and_eq_true, beq_iff_eq] at h1 h2 ⊢
    rcases h1 with h1 | ⟨rfl, h1⟩
    · rcases h2 with h2 | ⟨rfl, h2⟩
      · exact .inl (UInt8.lt_trans h1 h2)
      · exact .inl h1
    · rcases h2 with h2 | ⟨rfl, h2⟩
      · exact .inl h2
      · exact .inr ⟨rfl, bl_trans h1 h2⟩
theorem sLt_irr (s : ByteArray) : sLt s s = false := bl_irr _
theorem sLt_trans {a b c : ByteArray} (h1 : sLt a b = true) (h2 : sLt b c = true) : sLt a c = true := bl_trans h1 h2

end Go.Sy

/- The plain law of Trim: valid, its own Trim, labels lead to the corresponding turns. -/
namespace Go.Sy

theorem ris_ (l : List Arm) : RisW (risA l) := risA_ris sLt_irr sLt_trans l
theorem ris_mov (row : List Int) (l : List Arm) : risA (movA row l) = movA row l := risA_mov sLt_irr sLt_trans row l
section
variable {g : Grp}
theorem reach_pos (hg : InG g) (h0 : 0 < g.length) {x : Int} (hx : x ∈ reachG g) : 0 ≤ x ∧ x < (g.length : Int) := (reach_ok hg h0).1.range x hx
theorem reach_next (hg : InG g) (h0 : 0 < g.length) {x : Int} (hx : x ∈ reachG g) {a : Arm} (ha : a ∈ armsAt g x) : a.next ∈ reachG g := by
  obtain ⟨j, hj, rfl⟩ := List.mem_iff_getElem.1 hx
  exact (reach_ok hg h0).2 j _ hj (List.getElem?_eq_getElem hj) a ha
theorem plc_zero (g : Grp) : plc (reachG g) 0 = 0 := by
  obtain ⟨r, hr⟩ := reach_first g
  simp [plc, hr]
theorem zero_mem (g : Grp) : (0 : Int) ∈ reachG g := by
  obtain ⟨r, hr⟩ := reach_first g
  rw [hr]; exact List.mem_cons_self
theorem reach_trim (hg : InG g) (h0 : 0 < g.length) : reachG (trimG g) = (reachG g).map (plc (reachG g)) :=
  reach_ren sLt_irr sLt_trans hg h0 (plc_zero g) (fun _ hx _ hy h => plc_inj hx hy h)
    (fun x hx => by rw [trimG_at hx, ris_mov]; rfl) (by simp [trimG])
theorem plc_range (hd : (reachG g).Nodup) : (reachG g).map (plc (reachG g)) = (List.range (reachG g).length).map Int.ofNat := by
  apply List.ext_getElem (by simp)
  intro i h1 h2
  simp only [List.length_map] at h1
  simp only [List.getElem_map, List.getElem_range, plc]
  rw [hd.idxOf_getElem i h1]; rfl
theorem plc_plc (hg : InG g) (h0 : 0 < g.length) {x : Int} (hx : x ∈ reachG g) : plc (reachG (trimG g)) (plc (reachG g) x) = plc (reachG g) x := by
  rw [reach_trim hg h0, plc_range (reach_ok hg h0).1.nodup]
  have hlt := List.idxOf_lt_length_iff.2 hx
  unfold plc
  congr 1
  have hd : ((List.range (reachG g).length).map Int.ofNat).Nodup := by
    rw [← plc_range (reach_ok hg h0).1.nodup, List.nodup_iff_pairwise_ne, List.pairwise_map]
    exact List.Pairwise.imp_of_mem (fun {a b} ha hb hab e => hab (plc_inj ha hb e)) (List.nodup_iff_pairwise_ne.1 (reach_ok hg h0).1.nodup)
  have h2 : (List.range (reachG g).length).length = (reachG g).length := List.length_range
  have h3 : ((List.range (reachG g).length).map Int.ofNat)[(reachG g).idxOf x]'(by simpa using hlt) = (((reachG g).idxOf x : Nat) : Int) := by simp
  rw [← h3]
  exact hd.idxOf_getElem _ _
/-- Along labels. -/
theorem find_mov {x : Int} (hu : ((armsAt g x).map Arm.label).Nodup) (row : List Int) (s : ByteArray) :
    (movA row (armsAt g x)).find? (fun a => decide (a.label = s)) = ((armsAt g x).find? fun a => decide (a.label = s)).map (renA (plc row)) := by
  rw [movA_ren, List.find?_map]
  congr 1
  have hp := risA_perm (armsAt g x)
  show (risA (armsAt g x)).find? (fun a => decide (a.label = s)) = _
  generalize armsAt g x = l at *
  cases h : l.find? fun a => decide (a.label = s) with
  | none =>
    rw [List.find?_eq_none] at h ⊢
    exact fun a ha => h a (hp.mem_iff.1 ha)
  | some a =>
    have ha := List.mem_of_find?_eq_some h
    have has := List.find?_some h
    cases h2 : (risA l).find? fun a => decide (a.label = s) with
    | none =>
      rw [List.find?_eq_none] at h2
      exact absurd has (h2 a (hp.mem_iff.2 ha))
    | some b =>
      have hb := hp.mem_iff.1 (List.mem_of_find?_eq_some h2)
      have hbs := List.find?_some h2
      simp only [decide_eq_true_eq] at has hbs
      obtain ⟨i, hi, rfl⟩ := List.mem_iff_getElem.1 ha
      obtain ⟨j, hj, rfl⟩ := List.mem_iff_getElem.1 hb
      have : i = j := by
        have hne := List.nodup_iff_pairwise_ne.1 hu
        rw [List.pairwise_map, List.pairwise_iff_getElem] at hne
        rcases Nat.lt_trichotomy i j with h3 | h3 | h3
        · exact absurd (has.trans hbs.symm) (hne i j hi hj h3)
        · exact h3
        · exact absurd (hbs.trans has.symm) (hne j i hj hi h3)
      subst this; rfl
theorem walk_trim (hg : InG g) (h0 : 0 < g.length) (hu : ∀ x, ((armsAt g x).map Arm.label).Nodup) : ∀ (w : List ByteArray) {x : Int}, x ∈ reachG g → walkG (trimG g) (plc (reachG g) x) w = (walkG g x w).map (plc (reachG g)) ∧ ∀ y, walkG g x w = some y → y ∈ reachG g
  | [], x, hx => ⟨rfl, fun y hy => by simp only [walkG, Option.some.injEq] at hy; exact hy ▸ hx⟩
  | s :: w, x, hx => by
    rw [walkG, walkG, trimG_at hx, find_mov (hu x)]
    cases h : (armsAt g x).find? fun a => decide (a.label = s) with
    | none => exact ⟨rfl, fun y hy => by simp at hy⟩
    | some a =>
      simp only [Option.map_some]
      exact walk_trim hg h0 hu w (reach_next hg h0 hx (List.mem_of_find?_eq_some h))
end
end Go.Sy

/- The plain law of local types: a trimmed type is valid, is its own Trim, is the same type. -/
namespace Go.Sy

section
variable {l : Loc}
theorem armsAt_loc (l : Loc) (x : Int) : armsAt l.g x = (trnAt l x).arms := by
  unfold armsAt trnAt Loc.g
  rw [List.getD_eq_getElem?_getD, List.getD_eq_getElem?_getD, List.getElem?_map]
  cases l.turns[x.toNat]? <;> rfl
theorem trn_ok (h : locB l = true) : ∀ t ∈ l.turns, trnB l.turns.length t = true := by
  simp only [locB, Bool.and_eq_true, List.all_eq_true] at h
  exact h.2.2
theorem loc_len (h : locB l = true) : 1 ≤ l.turns.length ∧ l.turns.length ≤ 40 := by
  simp only [locB, Bool.and_eq_true, decide_eq_true_eq] at h
  exact ⟨h.1, h.2.1⟩
/-- The arms of a turn of a valid type: none, or valid ones. -/
theorem trn_arms {n : Int} {t : Trn} (h : trnB n t = true) : t.arms = [] ∨ armsOK n t.arms = true := by
  unfold trnB at h
  split at h
  · simp only [Bool.and_eq_true, List.isEmpty_iff] at h
    exact .inl h.2
  · split at h
    · simp only [Bool.and_eq_true] at h
      exact .inr h.2
    · cases h
theorem arms_all {n : Int} {l : List Arm} (h : armsOK n l = true) : (1 ≤ l.length ∧ l.length ≤ 6) ∧ (∀ a ∈ l, armB n a = true) ∧ (l.map Arm.label).Nodup := by
  simp only [armsOK, Bool.and_eq_true, decide_eq_true_eq, List.all_eq_true] at h
  exact ⟨⟨h.1, h.2.1⟩, h.2.2.1, h.2.2.2⟩
theorem arm_next {n : Int} {a : Arm} (h : armB n a = true) : 0 ≤ a.next ∧ a.next < n := by
  simp only [armB, Bool.and_eq_true, decide_eq_true_eq] at h
  exact h.2.2
theorem trnAt_arms (h : locB l = true) (x : Int) : armsAt l.g x = [] ∨ armsOK l.turns.length (armsAt l.g x) = true := by
  rw [armsAt_loc]
  unfold trnAt
  rw [List.getD_eq_getElem?_getD]
  cases hx : l.turns[x.toNat]? with
  | none => exact .inl rfl
  | some t => exact trn_arms (trn_ok h t (List.mem_of_getElem? hx))
theorem loc_g (h : locB l = true) : InG l.g ∧ 0 < l.g.length ∧ ∀ x, ((armsAt l.g x).map Arm.label).Nodup := by
  refine ⟨fun x a ha => ?_, ?_, fun x => ?_⟩
  · rcases trnAt_arms h x with h1 | h1
    · rw [h1] at ha; cases ha
    · have := arm_next ((arms_all h1).2.1 a ha)
      simpa [Loc.g] using this
  · have := loc_len h; simp [Loc.g]; omega
  · rcases trnAt_arms h x with h1 | h1
    · rw [h1]; simp
    · exact (arms_all h1).2.2
theorem armsOK_mov {n m : Int} {row : List Int} {l : List Arm} (h : armsOK n l = true) (hr : ∀ a ∈ l, a.next ∈ row) (hm : (row.length : Int) = m) : armsOK m (movA row l) = true := by
  obtain ⟨⟨h1, h2⟩, h3, h4⟩ := arms_all h
  have hp := risA_perm l
  have hl : (movA row l).length = l.length := by rw [movA_ren, List.length_map, risA_len]
  simp only [armsOK, Bool.and_eq_true, decide_eq_true_eq, List.all_eq_true, hl]
  refine ⟨h1, h2, fun a ha => ?_, ?_⟩
  · rw [movA_ren] at ha
    obtain ⟨b, hb, rfl⟩ := List.mem_map.1 ha
    have hb := hp.mem_iff.1 hb
    have h5 := h3 b hb
    have hlt := List.idxOf_lt_length_iff.2 (hr b hb)
    simp only [armB, Bool.and_eq_true, decide_eq_true_eq] at h5 ⊢
    refine ⟨h5.1, h5.2.1, ?_, ?_⟩
    · show (0 : Int) ≤ ((row.idxOf b.next : Nat) : Int); omega
    · show ((row.idxOf b.next : Nat) : Int) < m; omega
  · rw [movA_ren, List.map_map]
    show ((risA l).map Arm.label).Nodup
    exact (hp.map Arm.label).nodup_iff.2 h4
end
end Go.Sy

/- The plain law of local types: a type under other numbers has the same Trim. -/
namespace Go.Sy

theorem bl_tri : ∀ {x y : List UInt8}, Op.bytesLess x y = false → Op.bytesLess y x = false → x = y
  | [], [], _, _ => rfl
  | [], _ :: _, h, _ => by simp [Op.bytesLess] at h
  | _ :: _, [], _, h => by simp [Op.bytesLess] at h
  | a :: x, b :: y, h1, h2 => by
    simp only [Op.bytesLess, Bool.or_eq_false_iff, decide_eq_false_iff_not, Bool.and_eq_false_iff, beq_eq_false_iff_ne, ne_eq] at h1 h2
    have hab : a = b := by
      have h3 := h1.1; have h4 := h2.1
      rw [UInt8.lt_iff_toNat_lt] at h3 h4
      exact UInt8.toNat_inj.1 (by omega)
    subst hab
    have h5 : Op.bytesLess x y = false := by
      rcases h1.2 with h | h
      · exact absurd rfl h
      · exact h
    have h6 : Op.bytesLess y x = false := by
      rcases h2.2 with h | h
      · exact absurd rfl h
      · exact h
    rw [bl_tri h5 h6]
theorem ba_toList_inj {x y : ByteArray} (h : x.toList = y.toList) : x = y := by
  rw [ByteArray.toList_eq, ByteArray.toList_eq] at h
  exact ByteArray.ext (Array.ext' h)
theorem sLt_tri {s t : ByteArray} (h1 : sLt s t = false) (h2 : sLt t s = false) : s = t := ba_toList_inj (bl_tri h1 h2)
theorem nodup_arm {l : List Arm} (h : (l.map Arm.label).Nodup) {a b : Arm} (ha : a ∈ l) (hb : b ∈ l) (e : a.label = b.label) : a = b := by
  obtain ⟨i, hi, rfl⟩ := List.mem_iff_getElem.1 ha
  obtain ⟨j, hj, rfl⟩ := List.mem_iff_getElem.1 hb
  have hne := List.nodup_iff_pairwise_ne.1 h
  rw [List.pairwise_map, List.pairwise_iff_getElem] at hne
  rcases Nat.lt_trichotomy i j with h3 | h3 | h3
  · exact absurd e (hne i j hi hj h3)
  · subst h3; rfl
  · exact absurd e.symm (hne j i hj hi h3)
/-- The same arms in another order, sorted. -/
theorem risA_eq {l m : List Arm} (hp : l.Perm m) (h : (l.map Arm.label).Nodup) : risA l = risA m := by
  have h1 : (risA l).Perm (risA m) := (risA_perm l).trans (hp.trans (risA_perm m).symm)
  refine h1.eq_of_pairwise (le := fun (a b : Arm) => sLt b.label a.label = false) (fun a b ha hb h2 h3 => ?_) (ris_ l) (ris_ m)
  exact nodup_arm h ((risA_perm l).mem_iff.1 ha) (hp.mem_iff.2 ((risA_perm m).mem_iff.1 hb)) (sLt_tri h3 h2)
end Go.Sy

/- The plain law of names.Put: rising, without doubles, the same members. -/
namespace Go.Sy

/-! ### The peers -/
end Go.Sy
