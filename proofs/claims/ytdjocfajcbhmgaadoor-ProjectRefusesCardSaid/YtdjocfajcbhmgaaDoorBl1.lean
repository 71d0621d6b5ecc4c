/- Contracts of the reference, bundle Bl1. -/
import Derived.Test.YtdjocfajcbhmgaaDoorSymT
import Derived.Test.YtdjocfajcbhmgaaDoorSy4
import Derived.Test.YtdjocfajcbhmgaaDoorSy1
import Derived.Laws.Strings
import Derived.Sort.Walk0
import Derived.Lib.SlicesCompact
set_option linter.unusedSimpArgs false
set_option linter.unusedVariables false
set_option linter.unusedSectionVars false
namespace Go.Sy
open Go.Proofs
set_option maxRecDepth 100000
structure Edge where
  label : ByteArray
  kind : Int
  at_ : Int
  next : Int
abbrev Edge.cs (e : Edge) : List CT := [.str e.label, .int .i64 e.kind, .int .i64 e.at_, .int .i64 e.next]
structure Nd where
  kind : Int
  peer : ByteArray
  arms : List Edge
abbrev armsT (l : List Edge) : CT := .slice false 4 (l.map Edge.cs)
abbrev Nd.cs (x : Nd) : List CT := [.int .i64 x.kind, .str x.peer, armsT x.arms]
structure Bk where
  nodes : List Nd
  names : List ByteArray
  roots : List Int
abbrev nodesT (l : List Nd) : CT := .slice false 3 (l.map Nd.cs)
abbrev namesT (l : List ByteArray) : CT := .slice false 1 (l.map fun s => [CT.str s])
abbrev intsT (l : List Int) : CT := .slice false 1 (l.map fun r => [CT.int .i64 r])
abbrev Bk.cs (b : Bk) : List CT := [nodesT b.nodes, namesT b.names, intsT b.roots]
abbrev Ag (l : List CT) : SV := .agg (l.map SC.c)
end Go.Sy
namespace Go.Sy
open Go.Proofs
abbrev C1 (c : CT) : SV := .one (.c c)
abbrev Rv (c : CT) : ST := .v (.one (.c c))
set_option maxRecDepth 100000
attribute [local irreducible] SOps Goes
def letB (x : Int) : Bool := decide (97 ≤ x) && decide (x ≤ 122)
def digB (x : Int) : Bool := decide (48 ≤ x) && decide (x ≤ 57)
theorem letter_c (x : Int) : Con Tryd.prog 16 [] [C1 (.int .u8 x)] (Rv (.bool (letB x))) [] := by
  refine con_of (c := _) Tryd.func16 rfl rfl rfl (by decide) fun w M0 H Z => ?_
  repeat' (first
    | refine g_seq ?_
    | (refine g_region ?_; refine run_ th rfl ?_)
    | refine SOps.nil ?_
    | (refine s_splitD rfl rfl (fun _ => ?_) (fun _ => ?_) <;> refine run_ th rfl ?_)
    | (refine g_end th Tryd.func16 (.inr ⟨_, rfl⟩) rfl rfl rfl ⟨?_, rfl⟩))
  all_goals first | (simp_all [packS, letB]; done) | (simp_all [packS, letB]; omega)
theorem digit_c (x : Int) : Con Tryd.prog 18 [] [C1 (.int .u8 x)] (Rv (.bool (digB x))) [] := by
  refine con_of (c := _) Tryd.func18 rfl rfl rfl (by decide) fun w M0 H Z => ?_
  repeat' (first
    | refine g_seq ?_
    | (refine g_region ?_; refine run_ th rfl ?_)
    | refine SOps.nil ?_
    | (refine s_splitD rfl rfl (fun _ => ?_) (fun _ => ?_) <;> refine run_ th rfl ?_)
    | (refine g_end th Tryd.func18 (.inr ⟨_, rfl⟩) rfl rfl rfl ⟨?_, rfl⟩))
  all_goals first | (simp_all [packS, digB]; done) | (simp_all [packS, digB]; omega)
def kwList : List ByteArray := [
  ⟨#[97, 110, 100]⟩,
  ⟨#[97, 115]⟩,
  ⟨#[97, 116]⟩,
  ⟨#[98, 111, 111, 108]⟩,
  ⟨#[99, 97, 108, 108]⟩,
  ⟨#[99, 104, 97, 110]⟩,
  ⟨#[100, 114, 111, 112]⟩,
  ⟨#[101, 108, 115, 101]⟩,
  ⟨#[101, 109, 112, 116, 121]⟩,
  ⟨#[101, 110, 100]⟩,
  ⟨#[102, 97, 105, 108]⟩,
  ⟨#[102, 97, 108, 115, 101]⟩,
  ⟨#[102, 114, 111, 109]⟩,
  ⟨#[104, 101, 97, 114]⟩,
  ⟨#[105, 102]⟩,
  ⟨#[105, 110, 116]⟩,
  ⟨#[106, 111, 105, 110]⟩,
  ⟨#[108, 101, 110]⟩,
  ⟨#[108, 101, 116]⟩,
  ⟨#[108, 105, 115, 116]⟩,
  ⟨#[108, 111, 99, 97, 108]⟩,
  ⟨#[108, 111, 115, 116]⟩,
  ⟨#[109, 111, 100]⟩,
  ⟨#[110, 111, 116]⟩,
  ⟨#[111, 112, 101, 110]⟩,
  ⟨#[111, 114]⟩,
  ⟨#[112, 114, 105, 110, 116]⟩,
  ⟨#[112, 114, 111, 99]⟩,
  ⟨#[112, 114, 111, 116, 111, 99, 111, 108]⟩,
  ⟨#[112, 117, 115, 104]⟩,
  ⟨#[114, 111, 108, 101, 115]⟩,
  ⟨#[115, 97, 121]⟩,
  ⟨#[115, 112, 97, 119, 110]⟩,
  ⟨#[115, 116, 111, 112]⟩,
  ⟨#[116, 101, 120, 116]⟩,
  ⟨#[116, 111]⟩,
  ⟨#[116, 114, 117, 101]⟩,
  ⟨#[117, 110, 105, 116]⟩,
  ⟨#[119, 105, 116, 104]⟩
]
def kwB (s : ByteArray) : Bool := kwList.any fun k => decide (s = k)
set_option maxHeartbeats 4000000 in
theorem keyword_c (s : ByteArray) : Con Tryd.prog 17 [] [C1 (.str s)] (Rv (.bool (kwB s))) [] := by
  refine con_of (c := _) Tryd.func17 rfl rfl rfl (by decide) fun w M0 H Z => ?_
  repeat' (first
    | refine g_seq ?_
    | refine g_block ?_
    | refine g_inBlock ?_
    | refine g_skip ?_
    | refine g_exit rfl ?_
    | refine g_goto rfl ?_
    | refine g_label ?_
    | refine g_scope ?_
    | refine g_inScope ?_
    | (refine g_region ?_; refine run_ th rfl ?_)
    | refine SOps.nil ?_
    | (refine g_ifD rfl (fun _ => ?_) (fun _ => ?_))
    | (refine g_end th Tryd.func17 (.inr ⟨_, rfl⟩) rfl rfl rfl ⟨?_, rfl⟩)
    | refine g_if_true rfl ?_
    | refine g_if_false rfl ?_)
  any_goals (rename_i h; subst h; rfl)
  simp [packS, kwB, kwList, *]
end Go.Sy
namespace Go.Sy
open Go.Proofs
set_option maxRecDepth 100000
attribute [local irreducible] SOps Goes
def nchB (c : UInt8) : Bool := letB (c.toNat : Int) || digB (c.toNat : Int)
def nameB (s : ByteArray) : Bool :=
  match s.data.toList with
  | [] => false
  | c :: r => decide (r.length < 12) && (letB (c.toNat : Int) && (!kwB s && r.all nchB))
theorem sz_data (s : ByteArray) : s.data.toList.length = s.size := by simp
theorem nameB_cons {s : ByteArray} {c : UInt8} {r : List UInt8} (h : s.data.toList = c :: r) :
    nameB s = (decide (r.length < 12) && (letB (c.toNat : Int) && (!kwB s && r.all nchB))) := by
  unfold nameB; rw [h]
set_option maxHeartbeats 4000000 in
theorem may_c (s : ByteArray) : Con Tryd.prog 6 [] [C1 (.str s)] (Rv (.bool (nameB s))) [] := by
  have hsz := sz_data s
  cases hl : s.data.toList with
  | nil =>
    have h0 : s.size = 0 := by rw [← hsz, hl]; rfl
    have hn : nameB s = false := by unfold nameB; rw [hl]
    refine con_of (c := _) Tryd.func6 rfl rfl rfl (by decide) fun w M0 H Z => ?_
    repeat' (first
     | refine gc_ rfl ?_
     | (refine g_region ?_; refine run_ th rfl ?_)
     | (refine g_drawC mix rfl rfl ?_; refine drun_ th rfl ?_)
     | (refine g_drawEC mix rfl rfl ?_; refine erun_ th rfl ?_)
     | refine SOps.nil ?_
     | refine DOps.nil ?_
     | refine EOps.nil ?_ rfl rfl
     | (refine s_split rfl rfl (fun hb => ?_) (fun hb => ?_) <;> (try simp only [hbL] at hb) <;> first | (exfalso; omega) | refine run_ th rfl ?_)
     | (refine d_split rfl rfl rfl (fun hb => ?_) (fun hb => ?_) <;> (try simp only [hbL] at hb) <;> first | (exfalso; omega) | refine drun_ th rfl ?_)
     | (refine g_if rfl (fun hb => ?_) (fun hb => ?_) <;> (try simp only [hbL] at hb) <;> (try (exfalso; omega)))
     | refine g_end th Tryd.func6 (.inr ⟨_, rfl⟩) rfl rfl rfl ⟨?_, rfl⟩)
    · simp [packS, hn]
    all_goals (exfalso; omega)
  | cons c r =>
    have hr : r.length + 1 = s.size := by rw [← hsz, hl]; rfl
    have hn := nameB_cons hl
    have hc : s.data.toList[0]? = some c := by rw [hl]; rfl
    refine con_of (c := _) Tryd.func6 rfl rfl rfl (by decide) fun w M0 H Z => ?_
    repeat' (first
     | refine gc_ rfl ?_
     | (refine g_region ?_; refine run_ th rfl ?_)
     | (refine g_drawC mix rfl rfl ?_; refine drun_ th rfl ?_)
     | (refine g_drawEC mix rfl rfl ?_; refine erun_ th rfl ?_)
     | refine SOps.nil ?_
     | refine DOps.nil ?_
     | refine EOps.nil ?_ rfl rfl
     | (refine s_split rfl rfl (fun hb => ?_) (fun hb => ?_) <;> (try simp only [hbL] at hb) <;> first | (exfalso; omega) | refine run_ th rfl ?_)
     | (refine d_split rfl rfl rfl (fun hb => ?_) (fun hb => ?_) <;> (try simp only [hbL] at hb) <;> first | (exfalso; omega) | refine drun_ th rfl ?_)
     | (refine g_if rfl (fun hb => ?_) (fun hb => ?_) <;> (try simp only [hbL] at hb) <;> (try (exfalso; omega)))
     | refine g_end th Tryd.func6 (.inr ⟨_, rfl⟩) rfl rfl rfl ⟨?_, rfl⟩
     | (refine s_str th rfl rfl rfl rfl rfl rfl rfl 0 c rfl hc ?_; refine run_ th rfl ?_)
     | (refine s_call (letter_c _) [] rfl rfl rfl rfl rfl rfl rfl rfl rfl rfl ?_; refine run_ th rfl ?_)
     | (refine s_call (keyword_c _) [] rfl rfl rfl rfl rfl rfl rfl rfl rfl rfl ?_; refine run_ th rfl ?_))
    · simp [packS, hn, show ¬ r.length < 12 by omega]
    · simp [packS, hn, hb]
    · simp [packS, hn, hb]
    · rename_i hl1 hk1
      refine g_loop1 (fun k : Nat => k ≤ r.length ∧ (r.take k).all nchB = true) (fun k => [(0, .v (C1 (.str s))), (3, .v (C1 (.int .i64 (k + 1 : Int))))]) (fun _ => []) (fun k => r.length - k) 0 ⟨Nat.zero_le _, rfl⟩
        (fun a w h => h.sub (by exact ⟨⟨_, rfl, .refl _⟩, ⟨_, rfl, le_int rfl⟩, trivial⟩) (by exact trivial) rfl rfl rfl) (fun k hk ih => ?_)
      obtain ⟨hk, hok⟩ := hk
      by_cases hlt : k < r.length
      · have hx : s.data.toList[k + 1]? = some r[k] := by rw [hl]; simp [hlt]
        have hnx : (r.take (k + 1)).all nchB = nchB r[k] := by
          rw [List.take_succ_eq_append_getElem hlt, List.all_append, hok]; simp
        repeat' (first
         | refine gc_ rfl ?_
         | (refine g_region ?_; refine run_ th rfl ?_)
         | (refine g_drawC mix rfl rfl ?_; refine drun_ th rfl ?_)
         | (refine g_drawEC mix rfl rfl ?_; refine erun_ th rfl ?_)
         | refine SOps.nil ?_
         | refine DOps.nil ?_
         | refine EOps.nil ?_ rfl rfl
         | (refine s_split rfl rfl (fun hb => ?_) (fun hb => ?_) <;> (try simp only [hbL] at hb) <;> first | (exfalso; omega) | refine run_ th rfl ?_)
         | (refine d_split rfl rfl rfl (fun hb => ?_) (fun hb => ?_) <;> (try simp only [hbL] at hb) <;> first | (exfalso; omega) | refine drun_ th rfl ?_)
         | (refine g_if rfl (fun hb => ?_) (fun hb => ?_) <;> (try simp only [hbL] at hb) <;> (try (exfalso; omega)))
         | refine g_end th Tryd.func6 (.inr ⟨_, rfl⟩) rfl rfl rfl ⟨?_, rfl⟩
         | (refine s_str th rfl rfl rfl rfl rfl rfl rfl (k + 1) r[k] rfl hx ?_; refine run_ th rfl ?_)
         | (refine s_call (letter_c _) [] rfl rfl rfl rfl rfl rfl rfl rfl rfl rfl ?_; refine run_ th rfl ?_)
         | (refine s_call (digit_c _) [] rfl rfl rfl rfl rfl rfl rfl rfl rfl rfl ?_; refine run_ th rfl ?_)
         | (refine s_add rfl rfl rfl rfl rfl rfl (by omega) ?_; refine run_ th rfl ?_))
        · have : r.all nchB = false := by
            rw [List.all_eq_false]
            exact ⟨r[k], List.getElem_mem hlt, by simp [nchB, *]⟩
          simp [packS, hn, this]
        · exact g_sub (by exact ⟨⟨_, rfl, .refl _⟩, ⟨_, rfl, le_int (by omega)⟩, trivial⟩) (by exact trivial) rfl rfl rfl (ih (k + 1) ⟨hlt, by rw [hnx]; simp [nchB, *]⟩ (by omega))
        · exact g_sub (by exact ⟨⟨_, rfl, .refl _⟩, ⟨_, rfl, le_int (by omega)⟩, trivial⟩) (by exact trivial) rfl rfl rfl (ih (k + 1) ⟨hlt, by rw [hnx]; simp [nchB, *]⟩ (by omega))
      · have hke : k = r.length := by omega
        subst hke
        rw [List.take_length] at hok
        repeat' (first
         | refine gc_ rfl ?_
         | (refine g_region ?_; refine run_ th rfl ?_)
         | (refine g_drawC mix rfl rfl ?_; refine drun_ th rfl ?_)
         | (refine g_drawEC mix rfl rfl ?_; refine erun_ th rfl ?_)
         | refine SOps.nil ?_
         | refine DOps.nil ?_
         | refine EOps.nil ?_ rfl rfl
         | (refine s_split rfl rfl (fun hb => ?_) (fun hb => ?_) <;> (try simp only [hbL] at hb) <;> first | (exfalso; omega) | refine run_ th rfl ?_)
         | (refine d_split rfl rfl rfl (fun hb => ?_) (fun hb => ?_) <;> (try simp only [hbL] at hb) <;> first | (exfalso; omega) | refine drun_ th rfl ?_)
         | (refine g_if rfl (fun hb => ?_) (fun hb => ?_) <;> (try simp only [hbL] at hb) <;> (try (exfalso; omega)))
         | refine g_end th Tryd.func6 (.inr ⟨_, rfl⟩) rfl rfl rfl ⟨?_, rfl⟩)
        · have : r.length < 12 := by omega
          simp [packS, hn, this, hok, hk1, *]
end Go.Sy
namespace Go.Sy
structure Arm where
  label : ByteArray
  kind : Int
  name : ByteArray
  next : Int
deriving DecidableEq
abbrev Arm.cs (a : Arm) : List CT := [.str a.label, .int .i64 a.kind, .str a.name, .int .i64 a.next]
abbrev armsC (l : List Arm) : CT := .slice false 4 (l.map Arm.cs)
structure Trn where
  kind : Int
  peer : ByteArray
  arms : List Arm
deriving DecidableEq
abbrev Trn.cs (t : Trn) : List CT := [.int .i64 t.kind, .str t.peer, armsC t.arms]
structure Loc where
  name : ByteArray
  turns : List Trn
abbrev turnsC (l : List Trn) : CT := .slice false 3 (l.map Trn.cs)
abbrev Loc.cs (l : Loc) : List CT := [.str l.name, turnsC l.turns]
structure Pnt where
  from_ : ByteArray
  to : ByteArray
  arms : List Arm
deriving DecidableEq
abbrev Pnt.cs (x : Pnt) : List CT := [.str x.from_, .str x.to, armsC x.arms]
structure Prt where
  name : ByteArray
  roles : List ByteArray
  points : List Pnt
abbrev pointsC (l : List Pnt) : CT := .slice false 3 (l.map Pnt.cs)
abbrev Prt.cs (p : Prt) : List CT := [.str p.name, namesT p.roles, pointsC p.points]
def cutB : List UInt8 → Option (List UInt8 × List UInt8)
  | [] => none
  | c :: r => if c = 46 then some ([], r) else (cutB r).map fun p => (c :: p.1, p.2)
def typeB (s : ByteArray) : Bool := match cutB s.data.toList with
  | none => nameB s
  | some (a, b) => nameB ⟨a.toArray⟩ && nameB ⟨b.toArray⟩
def carB (kind : Int) (name : ByteArray) : Bool := if kind = 5 then typeB name else decide (0 ≤ kind) && (decide (kind < 5) && decide (name = ⟨#[]⟩))
def armB (n : Int) (a : Arm) : Bool := nameB a.label && (carB a.kind a.name && (decide (0 ≤ a.next) && decide (a.next < n)))
def armsOK (n : Int) (l : List Arm) : Bool := decide (1 ≤ l.length) && (decide (l.length ≤ 6) && (l.all (armB n) && decide ((l.map Arm.label).Nodup)))
def trnB (n : Int) (t : Trn) : Bool :=
  if t.kind = 0 then decide (t.peer = ⟨#[]⟩) && t.arms.isEmpty else if t.kind = 1 ∨ t.kind = 2 then nameB t.peer && armsOK n t.arms else false
def locB (l : Loc) : Bool := decide (1 ≤ l.turns.length) && (decide (l.turns.length ≤ 40) && l.turns.all (trnB l.turns.length))
def insA (a : Arm) : List Arm → List Arm
  | [] => [a]
  | b :: l => if sLt a.label b.label then a :: b :: l else b :: insA a l
def risA (l : List Arm) : List Arm := l.foldl (fun out a => insA a out) []
abbrev Grp := List (List Arm)
def armsAt (g : Grp) (x : Int) : List Arm := g.getD x.toNat []
def bfsIn (out : List Int) : List Arm → List Int
  | [] => out
  | a :: l => bfsIn (if a.next ∈ out then out else out ++ [a.next]) l
def bfs (g : Grp) : Nat → Nat → List Int → List Int
  | 0, _, out => out
  | f + 1, i, out => match out[i]? with
    | none => out
    | some x => bfs g f (i + 1) (bfsIn out (risA (armsAt g x)))
def reachG (g : Grp) : List Int := bfs g (g.length + 1) 0 [0]
def Loc.g (l : Loc) : Grp := l.turns.map Trn.arms
def movA (row : List Int) (l : List Arm) : List Arm := (risA l).map fun a => { a with next := ((row.idxOf a.next : Nat) : Int) }
def noTrn : Trn := ⟨0, ⟨#[]⟩, []⟩
def trnAt (l : Loc) (x : Int) : Trn := l.turns.getD x.toNat noTrn
def trimT (l : Loc) : Loc := ⟨l.name, (reachG l.g).map fun x => ⟨(trnAt l x).kind, (trnAt l x).peer, movA (reachG l.g) (trnAt l x).arms⟩⟩
def renA (φ : Int → Int) (a : Arm) : Arm := { a with next := φ a.next }
theorem bfsIn_app : ∀ (l : List Arm) (out : List Int), ∃ r, bfsIn out l = out ++ r
  | [], out => ⟨[], by simp [bfsIn]⟩
  | a :: l, out => by
    obtain ⟨r, hr⟩ := bfsIn_app l (if a.next ∈ out then out else out ++ [a.next])
    rw [bfsIn, hr]
    split
    · exact ⟨r, rfl⟩
    · exact ⟨a.next :: r, by simp⟩
theorem bfsIn_mem : ∀ (l : List Arm) (out : List Int) (x : Int), x ∈ bfsIn out l ↔ x ∈ out ∨ ∃ a ∈ l, a.next = x
  | [], out, x => by simp [bfsIn]
  | a :: l, out, x => by
    rw [bfsIn, bfsIn_mem l]
    by_cases h : a.next ∈ out
    · rw [if_pos h]
      constructor
      · rintro (h1 | ⟨b, hb, e⟩)
        · exact .inl h1
        · exact .inr ⟨b, List.mem_cons_of_mem _ hb, e⟩
      · rintro (h1 | ⟨b, hb, e⟩)
        · exact .inl h1
        · rcases List.mem_cons.1 hb with rfl | hb
          · exact .inl (e ▸ h)
          · exact .inr ⟨b, hb, e⟩
    · rw [if_neg h]
      simp only [List.mem_append, List.mem_cons, List.not_mem_nil, or_false, exists_eq_or_imp]
      constructor
      · rintro ((h1 | h1) | h1)
        · exact .inl h1
        · exact .inr (.inl h1.symm)
        · exact .inr (.inr h1)
      · rintro (h1 | h1 | h1)
        · exact .inl (.inl h1)
        · exact .inl (.inr h1.symm)
        · exact .inr h1
theorem bfs_app (g : Grp) : ∀ (f i : Nat) (out : List Int), ∃ r, bfs g f i out = out ++ r
  | 0, _, out => ⟨[], by simp [bfs]⟩
  | f + 1, i, out => by
    rw [bfs]
    cases out[i]? with
    | none => exact ⟨[], by simp⟩
    | some x =>
      obtain ⟨r, hr⟩ := bfsIn_app (risA (armsAt g x)) out
      obtain ⟨q, hq⟩ := bfs_app g f (i + 1) (bfsIn out (risA (armsAt g x)))
      exact ⟨r ++ q, by simp only; rw [hq, hr, List.append_assoc]⟩
end Go.Sy
namespace Go.Sy
theorem insA_perm (a : Arm) : ∀ l : List Arm, (insA a l).Perm (a :: l)
  | [] => .refl _
  | b :: l => by
    rw [insA]
    split
    · exact .refl _
    · exact ((insA_perm a l).cons b).trans (.swap a b l)
theorem risA_perm (l : List Arm) : (risA l).Perm l := by
  have h : ∀ (l out : List Arm), (l.foldl (fun out a => insA a out) out).Perm (out ++ l) := by
    intro l
    induction l with
    | nil => intro out; simp
    | cons a l ih =>
      intro out
      rw [List.foldl_cons]
      refine (ih _).trans (((insA_perm a out).append_right l).trans ?_)
      exact (List.perm_middle (a := a) (l₁ := out) (l₂ := l)).symm
  have := h l []
  rw [List.nil_append] at this
  exact this
theorem risA_mem {l : List Arm} {a : Arm} : a ∈ risA l ↔ a ∈ l := (risA_perm l).mem_iff
theorem risA_len (l : List Arm) : (risA l).length = l.length := (risA_perm l).length_eq
def RisW (l : List Arm) : Prop := l.Pairwise fun a b => sLt b.label a.label = false
theorem insA_end {a : Arm} : ∀ {l : List Arm}, (∀ b ∈ l, sLt a.label b.label = false) → insA a l = l ++ [a]
  | [], _ => rfl
  | b :: l, h => by
    rw [insA, if_neg (by rw [h b List.mem_cons_self]; decide), insA_end fun c hc => h c (List.mem_cons_of_mem _ hc)]; rfl
theorem risA_of {l : List Arm} (h : RisW l) : risA l = l := by
  have key : ∀ (l out : List Arm), RisW (out ++ l) → l.foldl (fun out a => insA a out) out = out ++ l := by
    intro l
    induction l with
    | nil => intro out _; simp
    | cons a l ih =>
      intro out ho
      have h1 : ∀ b ∈ out, sLt a.label b.label = false := fun b hb => (List.pairwise_append.1 ho).2.2 b hb a List.mem_cons_self
      rw [List.foldl_cons, insA_end h1, ih _ (by simpa using ho)]
      simp
  have := key l [] (by simpa using h)
  rw [List.nil_append] at this
  exact this
theorem insA_ris (hir : ∀ s, sLt s s = false) (htr : ∀ {s t u}, sLt s t = true → sLt t u = true → sLt s u = true) {a : Arm} : ∀ {l : List Arm}, RisW l → RisW (insA a l)
  | [], _ => by simp [insA, RisW]
  | b :: l, h => by
    have has : ∀ {s t}, sLt s t = true → sLt t s = false := fun {s t} h1 => by
      cases h2 : sLt t s with
      | false => rfl
      | true => have := htr h1 h2; rw [hir] at this; cases this
    rw [insA]
    obtain ⟨h1, h2⟩ := List.pairwise_cons.1 h
    split
    · rename_i hab
      refine List.pairwise_cons.2 ⟨fun c hc => ?_, h⟩
      rcases List.mem_cons.1 hc with rfl | hc
      · exact has hab
      · cases h3 : sLt c.label a.label with
        | false => rfl
        | true => have := htr h3 hab; rw [h1 c hc] at this; cases this
    · rename_i hab
      refine List.pairwise_cons.2 ⟨fun c hc => ?_, insA_ris hir htr h2⟩
      rcases (insA_perm a l).mem_iff.1 hc |> List.mem_cons.1 with rfl | hc
      · simpa using hab
      · exact h1 c hc
theorem risA_ris (hir : ∀ s, sLt s s = false) (htr : ∀ {s t u}, sLt s t = true → sLt t u = true → sLt s u = true) (l : List Arm) : RisW (risA l) := by
  have h : ∀ (l out : List Arm), RisW out → RisW (l.foldl (fun out a => insA a out) out) := by
    intro l
    induction l with
    | nil => intro out ho; exact ho
    | cons a l ih => intro out ho; exact ih _ (insA_ris hir htr ho)
  exact h l [] (by simp [RisW])
def InG (g : Grp) : Prop := ∀ x a, a ∈ armsAt g x → 0 ≤ a.next ∧ a.next < (g.length : Int)
structure Reached (g : Grp) (out : List Int) : Prop where
  nodup : out.Nodup
  range : ∀ x ∈ out, 0 ≤ x ∧ x < (g.length : Int)
theorem bfsIn_ok {g : Grp} : ∀ (l : List Arm) {out : List Int}, Reached g out → (∀ a ∈ l, 0 ≤ a.next ∧ a.next < (g.length : Int)) → Reached g (bfsIn out l)
  | [], _, h, _ => h
  | a :: l, out, h, hl => by
    rw [bfsIn]
    refine bfsIn_ok l ?_ fun b hb => hl b (List.mem_cons_of_mem _ hb)
    split
    · exact h
    · rename_i hn
      refine ⟨List.nodup_append.2 ⟨h.nodup, by simp, fun x hx y hy e => ?_⟩, fun x hx => ?_⟩
      · rw [List.mem_singleton] at hy; rw [e, hy] at hx; exact hn hx
      · rcases List.mem_append.1 hx with hx | hx
        · exact h.range x hx
        · rw [List.mem_singleton] at hx; rw [hx]; exact hl a List.mem_cons_self
theorem nodup_lt : ∀ (n : Nat) (l : List Nat), l.Nodup → (∀ k ∈ l, k < n) → l.length ≤ n
  | 0, l, _, h => by
    cases l with
    | nil => simp
    | cons a l => exact absurd (h a List.mem_cons_self) (by omega)
  | n + 1, l, hd, h => by
    by_cases hm : n ∈ l
    · have h1 := nodup_lt n (l.erase n) (hd.erase n) fun k hk => by
        have h2 := h k (List.mem_of_mem_erase hk)
        have h3 : k ≠ n := fun e => by subst e; exact (hd.not_mem_erase) hk
        omega
      rw [List.length_erase_of_mem hm] at h1
      omega
    · have := nodup_lt n l hd fun k hk => by
        have h2 := h k hk
        have h3 : k ≠ n := fun e => hm (e ▸ hk)
        omega
      omega
theorem Reached.len {g : Grp} {out : List Int} (h : Reached g out) : out.length ≤ g.length := by
  have h1 : (out.map Int.toNat).Nodup := by
    rw [List.nodup_iff_pairwise_ne, List.pairwise_map]
    refine List.Pairwise.imp_of_mem (fun {a b} ha hb hab => ?_) (List.nodup_iff_pairwise_ne.1 h.nodup)
    have := h.range a ha; have := h.range b hb
    omega
  have h2 : ∀ k ∈ out.map Int.toNat, k < g.length := fun k hk => by
    obtain ⟨x, hx, rfl⟩ := List.mem_map.1 hk
    have := h.range x hx; omega
  simpa using nodup_lt g.length _ h1 h2
def ClosedTo (g : Grp) (k : Nat) (out : List Int) : Prop := ∀ j x, j < k → out[j]? = some x → ∀ a ∈ armsAt g x, a.next ∈ out
theorem bfs_ok {g : Grp} (hg : InG g) : ∀ (f i : Nat) (out : List Int), Reached g out → ClosedTo g i out → i ≤ out.length → g.length < f + i → Reached g (bfs g f i out) ∧ ClosedTo g (bfs g f i out).length (bfs g f i out)
  | 0, i, out, h, _, hi, hf => by have := h.len; omega
  | f + 1, i, out, h, hc, hi, hf => by
    rw [bfs]
    cases hx : out[i]? with
    | none =>
      have : out.length ≤ i := List.getElem?_eq_none_iff.1 hx
      show Reached g out ∧ ClosedTo g out.length out
      exact ⟨h, fun j x hj => hc j x (by omega)⟩
    | some x =>
      simp only
      have hlt := (List.getElem?_eq_some_iff.1 hx).1
      have h1 := bfsIn_ok (risA (armsAt g x)) h fun a ha => hg x a (risA_mem.1 ha)
      obtain ⟨r, hr⟩ := bfsIn_app (risA (armsAt g x)) out
      refine bfs_ok hg f (i + 1) _ h1 (fun j y hj hy a ha => ?_) (by rw [hr, List.length_append]; omega) (by omega)
      rw [hr, List.getElem?_append_left (by omega)] at hy
      rw [bfsIn_mem]
      by_cases hji : j = i
      · subst hji
        rw [hx] at hy; injection hy with hy; subst hy
        exact .inr ⟨a, risA_mem.2 ha, rfl⟩
      · exact .inl (hc j y (by omega) hy a ha)
theorem reach_ok {g : Grp} (hg : InG g) (h0 : 0 < g.length) : Reached g (reachG g) ∧ ClosedTo g (reachG g).length (reachG g) :=
  bfs_ok hg _ 0 [0] ⟨by simp, fun x hx => by rw [List.mem_singleton] at hx; subst hx; omega⟩ (fun j x hj => by omega) (by simp) (by omega)
theorem reach_first (g : Grp) : ∃ r, reachG g = 0 :: r := by
  obtain ⟨r, hr⟩ := bfs_app g (g.length + 1) 0 [0]
  exact ⟨r, by rw [reachG, hr]; rfl⟩
end Go.Sy
namespace Go.Sy
section
variable {g : Grp}
def plc (row : List Int) (x : Int) : Int := ((row.idxOf x : Nat) : Int)
theorem movA_ren (row : List Int) (l : List Arm) : movA row l = (risA l).map (renA (plc row)) := rfl
variable (hir : ∀ s, sLt s s = false) (htr : ∀ {s t u}, sLt s t = true → sLt t u = true → sLt s u = true)
include hir htr
end
end Go.Sy
namespace Go.Sy
theorem bl_irr : ∀ l : List UInt8, Op.bytesLess l l = false
  | [] => rfl
  | a :: l => by simp [Op.bytesLess, bl_irr l]
theorem bl_trans : ∀ {x y z : List UInt8}, Op.bytesLess x y = true → Op.bytesLess y z = true → Op.bytesLess x z = true
  | _, [], _, h, _ => by cases ‹List UInt8› <;> simp [Op.bytesLess] at h
  | _, _ :: _, [], _, h => by simp [Op.bytesLess] at h
  | [], _ :: _, _ :: _, _, _ => rfl
  | a :: x, b :: y, c :: z, h1, h2 => by
    simp only [Op.bytesLess, Bool.or_eq_true, decide_eq_true_eq, Bool.and_eq_true, beq_iff_eq] at h1 h2 ⊢
    rcases h1 with h1 | ⟨rfl, h1⟩
    · rcases h2 with h2 | ⟨rfl, h2⟩
      · exact .inl (UInt8.lt_trans h1 h2)
      · exact .inl h1
    · rcases h2 with h2 | ⟨rfl, h2⟩
      · exact .inl h2
      · exact .inr ⟨rfl, bl_trans h1 h2⟩
theorem sLt_irr (s : ByteArray) : sLt s s = false := bl_irr _
theorem sLt_trans {a b c : ByteArray} (h1 : sLt a b = true) (h2 : sLt b c = true) : sLt a c = true := bl_trans h1 h2
end Go.Sy
namespace Go.Sy
theorem ris_ (l : List Arm) : RisW (risA l) := risA_ris sLt_irr sLt_trans l
section
variable {g : Grp}
theorem reach_pos (hg : InG g) (h0 : 0 < g.length) {x : Int} (hx : x ∈ reachG g) : 0 ≤ x ∧ x < (g.length : Int) := (reach_ok hg h0).1.range x hx
theorem reach_next (hg : InG g) (h0 : 0 < g.length) {x : Int} (hx : x ∈ reachG g) {a : Arm} (ha : a ∈ armsAt g x) : a.next ∈ reachG g := by
  obtain ⟨j, hj, rfl⟩ := List.mem_iff_getElem.1 hx
  exact (reach_ok hg h0).2 j _ hj (List.getElem?_eq_getElem hj) a ha
theorem zero_mem (g : Grp) : (0 : Int) ∈ reachG g := by
  obtain ⟨r, hr⟩ := reach_first g
  rw [hr]; exact List.mem_cons_self
end
end Go.Sy
namespace Go.Sy
section
variable {l : Loc}
theorem armsAt_loc (l : Loc) (x : Int) : armsAt l.g x = (trnAt l x).arms := by
  unfold armsAt trnAt Loc.g
  rw [List.getD_eq_getElem?_getD, List.getD_eq_getElem?_getD, List.getElem?_map]
  cases l.turns[x.toNat]? <;> rfl
theorem trn_ok (h : locB l = true) : ∀ t ∈ l.turns, trnB l.turns.length t = true := by
  simp only [locB, Bool.and_eq_true, List.all_eq_true] at h
  exact h.2.2
theorem loc_len (h : locB l = true) : 1 ≤ l.turns.length ∧ l.turns.length ≤ 40 := by
  simp only [locB, Bool.and_eq_true, decide_eq_true_eq] at h
  exact ⟨h.1, h.2.1⟩
theorem trnAt_mem {x : Int} (h : 0 ≤ x ∧ x < (l.turns.length : Int)) : trnAt l x ∈ l.turns := by
  unfold trnAt
  have hlt : x.toNat < l.turns.length := by omega
  rw [List.getD_eq_getElem?_getD, List.getElem?_eq_getElem hlt]
  exact List.getElem_mem hlt
theorem trn_arms {n : Int} {t : Trn} (h : trnB n t = true) : t.arms = [] ∨ armsOK n t.arms = true := by
  unfold trnB at h
  split at h
  · simp only [Bool.and_eq_true, List.isEmpty_iff] at h
    exact .inl h.2
  · split at h
    · simp only [Bool.and_eq_true] at h
      exact .inr h.2
    · cases h
theorem arms_all {n : Int} {l : List Arm} (h : armsOK n l = true) : (1 ≤ l.length ∧ l.length ≤ 6) ∧ (∀ a ∈ l, armB n a = true) ∧ (l.map Arm.label).Nodup := by
  simp only [armsOK, Bool.and_eq_true, decide_eq_true_eq, List.all_eq_true] at h
  exact ⟨⟨h.1, h.2.1⟩, h.2.2.1, h.2.2.2⟩
theorem arm_next {n : Int} {a : Arm} (h : armB n a = true) : 0 ≤ a.next ∧ a.next < n := by
  simp only [armB, Bool.and_eq_true, decide_eq_true_eq] at h
  exact h.2.2
theorem trnAt_arms (h : locB l = true) (x : Int) : armsAt l.g x = [] ∨ armsOK l.turns.length (armsAt l.g x) = true := by
  rw [armsAt_loc]
  unfold trnAt
  rw [List.getD_eq_getElem?_getD]
  cases hx : l.turns[x.toNat]? with
  | none => exact .inl rfl
  | some t => exact trn_arms (trn_ok h t (List.mem_of_getElem? hx))
theorem loc_g (h : locB l = true) : InG l.g ∧ 0 < l.g.length ∧ ∀ x, ((armsAt l.g x).map Arm.label).Nodup := by
  refine ⟨fun x a ha => ?_, ?_, fun x => ?_⟩
  · rcases trnAt_arms h x with h1 | h1
    · rw [h1] at ha; cases ha
    · have := arm_next ((arms_all h1).2.1 a ha)
      simpa [Loc.g] using this
  · have := loc_len h; simp [Loc.g]; omega
  · rcases trnAt_arms h x with h1 | h1
    · rw [h1]; simp
    · exact (arms_all h1).2.2
theorem armsOK_mov {n m : Int} {row : List Int} {l : List Arm} (h : armsOK n l = true) (hr : ∀ a ∈ l, a.next ∈ row) (hm : (row.length : Int) = m) : armsOK m (movA row l) = true := by
  obtain ⟨⟨h1, h2⟩, h3, h4⟩ := arms_all h
  have hp := risA_perm l
  have hl : (movA row l).length = l.length := by rw [movA_ren, List.length_map, risA_len]
  simp only [armsOK, Bool.and_eq_true, decide_eq_true_eq, List.all_eq_true, hl]
  refine ⟨h1, h2, fun a ha => ?_, ?_⟩
  · rw [movA_ren] at ha
    obtain ⟨b, hb, rfl⟩ := List.mem_map.1 ha
    have hb := hp.mem_iff.1 hb
    have h5 := h3 b hb
    have hlt := List.idxOf_lt_length_iff.2 (hr b hb)
    simp only [armB, Bool.and_eq_true, decide_eq_true_eq] at h5 ⊢
    refine ⟨h5.1, h5.2.1, ?_, ?_⟩
    · show (0 : Int) ≤ ((row.idxOf b.next : Nat) : Int); omega
    · show ((row.idxOf b.next : Nat) : Int) < m; omega
  · rw [movA_ren, List.map_map]
    show ((risA l).map Arm.label).Nodup
    exact (hp.map Arm.label).nodup_iff.2 h4
theorem loc_trim (h : locB l = true) : locB (trimT l) = true := by
  obtain ⟨hg, h0, _⟩ := loc_g h
  have hro := (reach_ok hg h0).1
  have hlen := hro.len
  have hgl : l.g.length = l.turns.length := by simp [Loc.g]
  have hl := loc_len h
  have htl : (trimT l).turns.length = (reachG l.g).length := by simp [trimT]
  obtain ⟨r, hrr⟩ := reach_first l.g
  simp only [locB, Bool.and_eq_true, decide_eq_true_eq, List.all_eq_true, htl]
  refine ⟨by rw [hrr]; simp, by omega, fun t ht => ?_⟩
  obtain ⟨x, hx, rfl⟩ := List.mem_map.1 (show t ∈ List.map _ (reachG l.g) from ht)
  have hmem := trnAt_mem (l := l) (x := x) (by have := hro.range x hx; omega)
  have hok := trn_ok h _ hmem
  have hnx : ∀ a ∈ (trnAt l x).arms, a.next ∈ reachG l.g := fun a ha => reach_next hg h0 hx (by rw [armsAt_loc]; exact ha)
  unfold trnB at hok ⊢
  simp only
  split at hok
  · rename_i hk
    rw [if_pos hk]
    simp only [Bool.and_eq_true, List.isEmpty_iff] at hok ⊢
    refine ⟨hok.1, ?_⟩
    rw [hok.2]; rfl
  · rename_i hk
    rw [if_neg hk]
    split at hok
    · rename_i hk2
      rw [if_pos hk2]
      simp only [Bool.and_eq_true] at hok ⊢
      exact ⟨hok.1, armsOK_mov hok.2 hnx rfl⟩
    · cases hok
end
end Go.Sy
namespace Go.Sy
theorem bl_tri : ∀ {x y : List UInt8}, Op.bytesLess x y = false → Op.bytesLess y x = false → x = y
  | [], [], _, _ => rfl
  | [], _ :: _, h, _ => by simp [Op.bytesLess] at h
  | _ :: _, [], _, h => by simp [Op.bytesLess] at h
  | a :: x, b :: y, h1, h2 => by
    simp only [Op.bytesLess, Bool.or_eq_false_iff, decide_eq_false_iff_not, Bool.and_eq_false_iff, beq_eq_false_iff_ne, ne_eq] at h1 h2
    have hab : a = b := by
      have h3 := h1.1; have h4 := h2.1
      rw [UInt8.lt_iff_toNat_lt] at h3 h4
      exact UInt8.toNat_inj.1 (by omega)
    subst hab
    have h5 : Op.bytesLess x y = false := by
      rcases h1.2 with h | h
      · exact absurd rfl h
      · exact h
    have h6 : Op.bytesLess y x = false := by
      rcases h2.2 with h | h
      · exact absurd rfl h
      · exact h
    rw [bl_tri h5 h6]
theorem ba_toList_inj {x y : ByteArray} (h : x.toList = y.toList) : x = y := by
  rw [ByteArray.toList_eq, ByteArray.toList_eq] at h
  exact ByteArray.ext (Array.ext' h)
theorem sLt_tri {s t : ByteArray} (h1 : sLt s t = false) (h2 : sLt t s = false) : s = t := ba_toList_inj (bl_tri h1 h2)
theorem nodup_arm {l : List Arm} (h : (l.map Arm.label).Nodup) {a b : Arm} (ha : a ∈ l) (hb : b ∈ l) (e : a.label = b.label) : a = b := by
  obtain ⟨i, hi, rfl⟩ := List.mem_iff_getElem.1 ha
  obtain ⟨j, hj, rfl⟩ := List.mem_iff_getElem.1 hb
  have hne := List.nodup_iff_pairwise_ne.1 h
  rw [List.pairwise_map, List.pairwise_iff_getElem] at hne
  rcases Nat.lt_trichotomy i j with h3 | h3 | h3
  · exact absurd e (hne i j hi hj h3)
  · subst h3; rfl
  · exact absurd e.symm (hne j i hj hi h3)
theorem risA_eq {l m : List Arm} (hp : l.Perm m) (h : (l.map Arm.label).Nodup) : risA l = risA m := by
  have h1 : (risA l).Perm (risA m) := (risA_perm l).trans (hp.trans (risA_perm m).symm)
  refine h1.eq_of_pairwise (le := fun (a b : Arm) => sLt b.label a.label = false) (fun a b ha hb h2 h3 => ?_) (ris_ l) (ris_ m)
  exact nodup_arm h ((risA_perm l).mem_iff.1 ha) (hp.mem_iff.2 ((risA_perm m).mem_iff.1 hb)) (sLt_tri h3 h2)
end Go.Sy
namespace Go.Sy
abbrev bl (s : ByteArray) : List UInt8 := s.data.toList
abbrev ba (l : List UInt8) : ByteArray := ⟨l.toArray⟩
theorem ba_bl (s : ByteArray) : ba (bl s) = s := rfl
theorem map_ba (l : List ByteArray) : (l.map bl).map ba = l := by rw [List.map_map]; exact List.map_id l
theorem map_bl (l : List (List UInt8)) : (l.map ba).map bl = l := by
  rw [List.map_map]
  have : bl ∘ ba = id := by funext x; simp [bl, ba]
  rw [this]; exact List.map_id l
def sortN (l : List ByteArray) : List ByteArray := ((l.map bl).mergeSort fun x y => decide (x ≤ y)).map ba
def compN (l : List ByteArray) : List ByteArray := (Lib.compact (l.map bl)).map ba
def putN (l : List ByteArray) (s : ByteArray) : List ByteArray := compN (sortN (l ++ [s]))
theorem sLt_bl (s t : ByteArray) : sLt s t = Op.bytesLess (bl s) (bl t) := by unfold sLt; rw [ByteArray.toList_eq, ByteArray.toList_eq]
theorem le_bl (x y : List UInt8) : (x ≤ y) ↔ Op.bytesLess y x = false := by
  rw [Go.Proofs.bytesLess_eq]; simp
theorem bl_le_trans {x y z : List UInt8} (h1 : Op.bytesLess y x = false) (h2 : Op.bytesLess z y = false) : Op.bytesLess z x = false := by
  cases h : Op.bytesLess z x with
  | false => rfl
  | true =>
    exfalso
    cases h3 : Op.bytesLess x y with
    | true => have := bl_trans h h3; rw [h2] at this; cases this
    | false =>
      have := bl_tri h1 h3
      subst this
      rw [h2] at h; cases h
theorem bl_le_lt {x y z : List UInt8} (h1 : Op.bytesLess y x = false) (h2 : Op.bytesLess y z = true) : Op.bytesLess x z = true := by
  cases h : Op.bytesLess x y with
  | true => exact bl_trans h h2
  | false => have := bl_tri h1 h; subst this; exact h2
theorem bl_total (x y : List UInt8) : Op.bytesLess y x = false ∨ Op.bytesLess x y = false := by
  cases h : Op.bytesLess y x with
  | false => exact .inl rfl
  | true =>
    refine .inr ?_
    cases h2 : Op.bytesLess x y with
    | false => rfl
    | true => have := bl_trans h h2; rw [bl_irr] at this; cases this
theorem sort_pair (zs : List (List UInt8)) : (zs.mergeSort fun x y => decide (x ≤ y)).Pairwise fun a b => Op.bytesLess b a = false := by
  refine (List.pairwise_mergeSort (le := fun x y : List UInt8 => decide (x ≤ y)) (fun a b c h1 h2 => ?_) (fun a b => ?_) zs).imp fun {a b} h => (le_bl a b).1 (by simpa using h)
  · have h1 := (le_bl a b).1 (by simpa using h1)
    have h2 := (le_bl b c).1 (by simpa using h2)
    exact decide_eq_true ((le_bl a c).2 (bl_le_trans h1 h2))
  · rcases bl_total a b with h | h
    · rw [decide_eq_true ((le_bl a b).2 h)]; rfl
    · rw [decide_eq_true ((le_bl b a).2 h)]; simp
theorem comp_inv (d : Array (List UInt8)) (hs : d.toList.Pairwise fun a b => Op.bytesLess b a = false) : ∀ m, m ≤ d.size →
    (Lib.compactUpTo d m).Pairwise (fun a b => Op.bytesLess a b = true) ∧ ∀ x, x ∈ Lib.compactUpTo d m ↔ ∃ j, j < m ∧ d[j]! = x
  | 0, _ => ⟨by simp [Lib.compactUpTo], fun x => by simp [Lib.compactUpTo]⟩
  | m + 1, hm => by
    obtain ⟨h1, h2⟩ := comp_inv d hs m (by omega)
    have hle : ∀ j, j < m → Op.bytesLess d[m]! d[j]! = false := fun j hj => by
      rw [getElem!_pos d m (by omega), getElem!_pos d j (by omega)]
      exact List.pairwise_iff_getElem.1 hs j m (by simp; omega) (by simp; omega) hj
    rw [Lib.compactUpTo_succ]
    by_cases hk : Lib.keeps d m = true
    · rw [if_pos hk]
      refine ⟨List.pairwise_append.2 ⟨h1, List.pairwise_singleton _ _, fun a ha b hb => ?_⟩, fun x => ?_⟩
      · rw [List.mem_singleton] at hb
        subst hb
        obtain ⟨j, hj, rfl⟩ := (h2 a).1 ha
        have hne : d[m]! ≠ d[m - 1]! := by
          simp only [Lib.keeps, decide_eq_true_eq] at hk
          rcases hk with hk | hk
          · omega
          · exact hk
        have h3 : Op.bytesLess d[m - 1]! d[m]! = true := by
          cases h4 : Op.bytesLess d[m - 1]! d[m]! with
          | true => rfl
          | false => exact absurd (bl_tri (hle (m - 1) (by omega)) h4) hne
        by_cases hj1 : j = m - 1
        · subst hj1; exact h3
        · refine bl_le_lt (y := d[m - 1]!) ?_ h3
          rw [getElem!_pos d (m - 1) (by omega), getElem!_pos d j (by omega)]
          exact List.pairwise_iff_getElem.1 hs j (m - 1) (by simp; omega) (by simp; omega) (by omega)
      · rw [List.mem_append, List.mem_singleton, h2 x]
        constructor
        · rintro (⟨j, hj, e⟩ | e)
          · exact ⟨j, by omega, e⟩
          · exact ⟨m, by omega, e.symm⟩
        · rintro ⟨j, hj, e⟩
          by_cases hjm : j = m
          · subst hjm; exact .inr e.symm
          · exact .inl ⟨j, by omega, e⟩
    · rw [if_neg hk, List.append_nil]
      refine ⟨h1, fun x => ?_⟩
      rw [h2 x]
      have he : m ≠ 0 ∧ d[m]! = d[m - 1]! := by
        simp only [Lib.keeps, decide_eq_true_eq, not_or, Decidable.not_not] at hk
        exact hk
      constructor
      · rintro ⟨j, hj, e⟩; exact ⟨j, by omega, e⟩
      · rintro ⟨j, hj, e⟩
        by_cases hjm : j = m
        · subst hjm; exact ⟨j - 1, by omega, by rw [← he.2]; exact e⟩
        · exact ⟨j, by omega, e⟩
def Asc (l : List ByteArray) : Prop := l.Pairwise fun a b => sLt a b = true
theorem sortN_mem {l : List ByteArray} {x : ByteArray} : x ∈ sortN l ↔ x ∈ l := by
  have hp := (List.mergeSort_perm (l.map bl) fun x y => decide (x ≤ y)).map ba
  rw [map_ba] at hp
  exact hp.mem_iff
theorem sortN_len (l : List ByteArray) : (sortN l).length = l.length := by
  unfold sortN; rw [List.length_map, List.length_mergeSort, List.length_map]
theorem compN_asc {l : List ByteArray} : Asc (compN (sortN l)) ∧ ∀ x, x ∈ compN (sortN l) ↔ x ∈ l := by
  have hs : ((sortN l).map bl).toArray.toList.Pairwise fun a b => Op.bytesLess b a = false := by
    rw [List.toList_toArray]; unfold sortN; rw [map_bl]; exact sort_pair _
  obtain ⟨h1, h2⟩ := comp_inv _ hs ((sortN l).map bl).toArray.size (Nat.le_refl _)
  have he : Lib.compact ((sortN l).map bl) = Lib.compactUpTo ((sortN l).map bl).toArray ((sortN l).map bl).toArray.size := by unfold Lib.compact; simp
  refine ⟨?_, fun x => ?_⟩
  · unfold Asc compN
    rw [List.pairwise_map, he]
    refine h1.imp fun {a b} h => ?_
    rw [sLt_bl]; simpa [bl, ba] using h
  · unfold compN
    rw [List.mem_map, he]
    constructor
    · rintro ⟨y, hy, rfl⟩
      obtain ⟨j, hj, e⟩ := (h2 y).1 hy
      rw [getElem!_pos _ j hj] at e
      have hm : y ∈ (sortN l).map bl := by
        have h3 := Array.getElem_mem hj
        rw [e] at h3
        simpa using h3
      obtain ⟨z, hz, rfl⟩ := List.mem_map.1 hm
      rw [ba_bl]; exact sortN_mem.1 hz
    · intro hx
      have hm : bl x ∈ (sortN l).map bl := List.mem_map.2 ⟨x, sortN_mem.2 hx, rfl⟩
      refine ⟨bl x, (h2 _).2 ?_, ba_bl x⟩
      obtain ⟨j, hj, e⟩ := List.mem_iff_getElem.1 hm
      exact ⟨j, by simpa using hj, by rw [getElem!_pos _ j (by simpa using hj)]; simpa using e⟩
theorem putN_asc (l : List ByteArray) (s : ByteArray) : Asc (putN l s) := compN_asc.1
theorem putN_mem {l : List ByteArray} {s x : ByteArray} : x ∈ putN l s ↔ x ∈ l ∨ x = s := by
  unfold putN; rw [compN_asc.2 x, List.mem_append, List.mem_singleton]
theorem compN_len (l : List ByteArray) : (compN l).length ≤ l.length := by
  unfold compN Lib.compact Lib.compactUpTo
  rw [List.length_map, List.length_map]
  exact Nat.le_trans (List.length_filter_le _ _) (by simp)
theorem putN_len (l : List ByteArray) (s : ByteArray) : (putN l s).length ≤ l.length + 1 := by
  have h := compN_len (sortN (l ++ [s]))
  rw [sortN_len] at h
  simpa [putN] using h
theorem asc_nodup {l : List ByteArray} (h : Asc l) : l.Nodup := by
  rw [List.nodup_iff_pairwise_ne]
  exact h.imp fun {a b} h e => by rw [e, sLt_irr] at h; cases h
theorem asc_ext {l m : List ByteArray} (hl : Asc l) (hm : Asc m) (h : ∀ x, x ∈ l ↔ x ∈ m) : l = m := by
  have hp : l.Perm m := (List.perm_ext_iff_of_nodup (asc_nodup hl) (asc_nodup hm)).2 h
  refine hp.eq_of_pairwise (le := fun a b => sLt a b = true) (fun a b _ _ h1 h2 => ?_) hl hm
  have := sLt_trans h1 h2
  rw [sLt_irr] at this; cases this
def peersF (l : Loc) (out : List ByteArray) (x : Int) : List ByteArray := if (trnAt l x).kind = 0 then out else putN out (trnAt l x).peer
def peersS (l : Loc) (rows : List Int) : List ByteArray := rows.foldl (peersF l) []
def peersL (l : Loc) : List ByteArray := if locB l then peersS l (reachG l.g) else []
theorem peersF_asc {l : Loc} {out : List ByteArray} {x : Int} (h : Asc out) : Asc (peersF l out x) := by
  unfold peersF; split
  · exact h
  · exact putN_asc _ _
theorem peersF_mem {l : Loc} {out : List ByteArray} {x : Int} {s : ByteArray} : s ∈ peersF l out x ↔ s ∈ out ∨ ((trnAt l x).kind ≠ 0 ∧ s = (trnAt l x).peer) := by
  unfold peersF; split
  · rename_i h; simp [h]
  · rename_i h; rw [putN_mem]; simp [h]
theorem peers_fold {l : Loc} : ∀ (rows : List Int) {out : List ByteArray}, Asc out → Asc (rows.foldl (peersF l) out) ∧ ∀ s, s ∈ rows.foldl (peersF l) out ↔ s ∈ out ∨ ∃ x ∈ rows, (trnAt l x).kind ≠ 0 ∧ s = (trnAt l x).peer
  | [], out, h => ⟨h, fun s => by simp⟩
  | x :: rows, out, h => by
    obtain ⟨h1, h2⟩ := peers_fold rows (peersF_asc (l := l) (x := x) h)
    refine ⟨h1, fun s => ?_⟩
    rw [List.foldl_cons, h2 s, peersF_mem]
    constructor
    · rintro ((h | ⟨h3, h4⟩) | ⟨y, hy, h3, h4⟩)
      · exact .inl h
      · exact .inr ⟨x, List.mem_cons_self, h3, h4⟩
      · exact .inr ⟨y, List.mem_cons_of_mem _ hy, h3, h4⟩
    · rintro (h | ⟨y, hy, h3, h4⟩)
      · exact .inl (.inl h)
      · rcases List.mem_cons.1 hy with rfl | hy
        · exact .inl (.inr ⟨h3, h4⟩)
        · exact .inr ⟨y, hy, h3, h4⟩
theorem peersS_asc (l : Loc) (rows : List Int) : Asc (peersS l rows) := (peers_fold rows List.Pairwise.nil).1
theorem peersS_mem {l : Loc} {rows : List Int} {s : ByteArray} : s ∈ peersS l rows ↔ ∃ x ∈ rows, (trnAt l x).kind ≠ 0 ∧ s = (trnAt l x).peer := by
  unfold peersS; rw [(peers_fold rows List.Pairwise.nil).2 s]; simp
theorem peersS_len (l : Loc) (rows : List Int) : (peersS l rows).length ≤ rows.length := by
  have h : ∀ (rows : List Int) (out : List ByteArray), (rows.foldl (peersF l) out).length ≤ out.length + rows.length := by
    intro rows
    induction rows with
    | nil => intro out; simp
    | cons x rows ih =>
      intro out
      rw [List.foldl_cons]
      have h1 := ih (peersF l out x)
      have h2 : (peersF l out x).length ≤ out.length + 1 := by
        unfold peersF; split
        · omega
        · exact putN_len _ _
      simp only [List.length_cons]; omega
  have := h rows []
  simpa [peersS] using this
end Go.Sy
