/- Contracts of the reference, bundle Bf1. -/
import Derived.Test.YtohalikeabmimaaDoorSymT
import Derived.Test.YtohalikeabmimaaDoorSy4
import Derived.Test.YtohalikeabmimaaDoorSy3
/- The data: edges, nodes, books. -/
set_option linter.unusedSimpArgs false
set_option linter.unusedVariables false
set_option linter.unusedSectionVars false
namespace Go.Sy
open Go.Proofs
set_option maxRecDepth 100000

structure Edge where
  label : ByteArray
  kind : Int
  at_ : Int
  next : Int
abbrev Edge.cs (e : Edge) : List CT := [.str e.label, .int .i64 e.kind, .int .i64 e.at_, .int .i64 e.next]
structure Nd where
  kind : Int
  peer : ByteArray
  arms : List Edge
abbrev armsT (l : List Edge) : CT := .slice false 4 (l.map Edge.cs)
abbrev Nd.cs (x : Nd) : List CT := [.int .i64 x.kind, .str x.peer, armsT x.arms]
structure Bk where
  nodes : List Nd
  names : List ByteArray
  roots : List Int
abbrev nodesT (l : List Nd) : CT := .slice false 3 (l.map Nd.cs)
abbrev namesT (l : List ByteArray) : CT := .slice false 1 (l.map fun s => [CT.str s])
abbrev intsT (l : List Int) : CT := .slice false 1 (l.map fun r => [CT.int .i64 r])
abbrev Bk.cs (b : Bk) : List CT := [nodesT b.nodes, namesT b.names, intsT b.roots]

/-- A frozen struct as a value. -/
abbrev Ag (l : List CT) : SV := .agg (l.map SC.c)
end Go.Sy

/- Contracts: names. -/
namespace Go.Sy
open Go.Proofs
abbrev C1 (c : CT) : SV := .one (.c c)
abbrev Rv (c : CT) : ST := .v (.one (.c c))
set_option maxRecDepth 100000
attribute [local irreducible] SOps Goes

def letB (x : Int) : Bool := decide (97 ≤ x) && decide (x ≤ 122)
def digB (x : Int) : Bool := decide (48 ≤ x) && decide (x ≤ 57)

theorem letter_c (x : Int) : Con Tryd.prog 90 [] [C1 (.int .u8 x)] (Rv (.bool (letB x))) [] := by
  refine con_of (c := _) Tryd.func90 rfl rfl rfl (by decide) fun w M0 H Z => ?_
  repeat' (first
    | refine g_seq ?_
    | (refine g_region ?_; refine run_ th rfl ?_)
    | refine SOps.nil ?_
    | (refine s_splitD rfl rfl (fun _ => ?_) (fun _ => ?_) <;> refine run_ th rfl ?_)
    | (refine g_end th Tryd.func90 (.inr ⟨_, rfl⟩) rfl rfl rfl ⟨?_, rfl⟩))
  all_goals first | (simp_all [packS, letB]; done) | (simp_all [packS, letB]; omega)

theorem digit_c (x : Int) : Con Tryd.prog 92 [] [C1 (.int .u8 x)] (Rv (.bool (digB x))) [] := by
  refine con_of (c := _) Tryd.func92 rfl rfl rfl (by decide) fun w M0 H Z => ?_
  repeat' (first
    | refine g_seq ?_
    | (refine g_region ?_; refine run_ th rfl ?_)
    | refine SOps.nil ?_
    | (refine s_splitD rfl rfl (fun _ => ?_) (fun _ => ?_) <;> refine run_ th rfl ?_)
    | (refine g_end th Tryd.func92 (.inr ⟨_, rfl⟩) rfl rfl rfl ⟨?_, rfl⟩))
  all_goals first | (simp_all [packS, digB]; done) | (simp_all [packS, digB]; omega)
def kwList : List ByteArray := [
  ⟨#[97, 110, 100]⟩,
  ⟨#[97, 115]⟩,
  ⟨#[97, 116]⟩,
  ⟨#[98, 111, 111, 108]⟩,
  ⟨#[99, 97, 108, 108]⟩,
  ⟨#[99, 104, 97, 110]⟩,
  ⟨#[100, 114, 111, 112]⟩,
  ⟨#[101, 108, 115, 101]⟩,
  ⟨#[101, 109, 112, 116, 121]⟩,
  ⟨#[101, 110, 100]⟩,
  ⟨#[102, 97, 105, 108]⟩,
  ⟨#[102, 97, 108, 115, 101]⟩,
  ⟨#[102, 114, 111, 109]⟩,
  ⟨#[104, 101, 97, 114]⟩,
  ⟨#[105, 102]⟩,
  ⟨#[105, 110, 116]⟩,
  ⟨#[106, 111, 105, 110]⟩,
  ⟨#[108, 101, 110]⟩,
  ⟨#[108, 101, 116]⟩,
  ⟨#[108, 105, 115, 116]⟩,
  ⟨#[108, 111, 99, 97, 108]⟩,
  ⟨#[108, 111, 115, 116]⟩,
  ⟨#[109, 111, 100]⟩,
  ⟨#[110, 111, 116]⟩,
  ⟨#[111, 112, 101, 110]⟩,
  ⟨#[111, 114]⟩,
  ⟨#[112, 114, 105, 110, 116]⟩,
  ⟨#[112, 114, 111, 99]⟩,
  ⟨#[112, 114, 111, 116, 111, 99, 111, 108]⟩,
  ⟨#[112, 117, 115, 104]⟩,
  ⟨#[114, 111, 108, 101, 115]⟩,
  ⟨#[115, 97, 121]⟩,
  ⟨#[115, 112, 97, 119, 110]⟩,
  ⟨#[115, 116, 111, 112]⟩,
  ⟨#[116, 101, 120, 116]⟩,
  ⟨#[116, 111]⟩,
  ⟨#[116, 114, 117, 101]⟩,
  ⟨#[117, 110, 105, 116]⟩,
  ⟨#[119, 105, 116, 104]⟩
]

def kwB (s : ByteArray) : Bool := kwList.any fun k => decide (s = k)

set_option maxHeartbeats 4000000 in
theorem keyword_c (s : ByteArray) : Con Tryd.prog 91 [] [C1 (.str s)] (Rv (.bool (kwB s))) [] := by
  refine con_of (c := _) Tryd.func91 rfl rfl rfl (by decide) fun w M0 H Z => ?_
  repeat' (first
    | refine g_seq ?_
    | refine g_block ?_
    | refine g_inBlock ?_
    | refine g_skip ?_
    | refine g_exit rfl ?_
    | refine g_goto rfl ?_
    | refine g_label ?_
    | refine g_scope ?_
    | refine g_inScope ?_
    | (refine g_region ?_; refine run_ th rfl ?_)
    | refine SOps.nil ?_
    | (refine g_ifD rfl (fun _ => ?_) (fun _ => ?_))
    | (refine g_end th Tryd.func91 (.inr ⟨_, rfl⟩) rfl rfl rfl ⟨?_, rfl⟩)
    | refine g_if_true rfl ?_
    | refine g_if_false rfl ?_)
  any_goals (rename_i h; subst h; rfl)
  simp [packS, kwB, kwList, *]
end Go.Sy

/- Contracts: a name. -/
namespace Go.Sy
open Go.Proofs
set_option maxRecDepth 100000
attribute [local irreducible] SOps Goes

def nchB (c : UInt8) : Bool := letB (c.toNat : Int) || digB (c.toNat : Int)
/-- A name (P1.1). -/
def nameB (s : ByteArray) : Bool :=
  match s.data.toList with
  | [] => false
  | c :: r => decide (r.length < 12) && (letB (c.toNat : Int) && (!kwB s && r.all nchB))

theorem sz_data (s : ByteArray) : s.data.toList.length = s.size := by simp

theorem nameB_cons {s : ByteArray} {c : UInt8} {r : List UInt8} (h : s.data.toList = c :: r) :
    nameB s = (decide (r.length < 12) && (letB (c.toNat : Int) && (!kwB s && r.all nchB))) := by
  unfold nameB; rw [h]

set_option maxHeartbeats 4000000 in
theorem may_c (s : ByteArray) : Con Tryd.prog 81 [] [C1 (.str s)] (Rv (.bool (nameB s))) [] := by
  have hsz := sz_data s
  cases hl : s.data.toList with
  | nil =>
    have h0 : s.size = 0 := by rw [← hsz, hl]; rfl
    have hn : nameB s = false := by unfold nameB; rw [hl]
    refine con_of (c := _) Tryd.func81 rfl rfl rfl (by decide) fun w M0 H Z => ?_
    repeat' (first
     | refine gc_ rfl ?_
     | (refine g_region ?_; refine run_ th rfl ?_)
     | (refine g_drawC mix rfl rfl ?_; refine drun_ th rfl ?_)
     | (refine g_drawEC mix rfl rfl ?_; refine erun_ th rfl ?_)
     | refine SOps.nil ?_
     | refine DOps.nil ?_
     | refine EOps.nil ?_ rfl rfl
     | (refine s_split rfl rfl (fun hb => ?_) (fun hb => ?_) <;> (try simp only [hbL] at hb) <;> first | (exfalso; omega) | refine run_ th rfl ?_)
     | (refine d_split rfl rfl rfl (fun hb => ?_) (fun hb => ?_) <;> (try simp only [hbL] at hb) <;> first | (exfalso; omega) | refine drun_ th rfl ?_)
     | (refine g_if rfl (fun hb => ?_) (fun hb => ?_) <;> (try simp only [hbL] at hb) <;> (try (exfalso; omega)))
     | refine g_end th Tryd.func81 (.inr ⟨_, rfl⟩) rfl rfl rfl ⟨?_, rfl⟩)
    · simp [packS, hn]
    all_goals (exfalso; omega)
  | cons c r =>
    have hr : r.length + 1 = s.size := by rw [← hsz, hl]; rfl
    have hn := nameB_cons hl
    have hc : s.data.toList[0]? = some c := by rw [hl]; rfl
    refine con_of (c := _) Tryd.func81 rfl rfl rfl (by decide) fun w M0 H Z => ?_
    repeat' (first
     | refine gc_ rfl ?_
     | (refine g_region ?_; refine run_ th rfl ?_)
     | (refine g_drawC mix rfl rfl ?_; refine drun_ th rfl ?_)
     | (refine g_drawEC mix rfl rfl ?_; refine erun_ th rfl ?_)
     | refine SOps.nil ?_
     | refine DOps.nil ?_
     | refine EOps.nil ?_ rfl rfl
     | (refine s_split rfl rfl (fun hb => ?_) (fun hb => ?_) <;> (try simp only [hbL] at hb) <;> first | (exfalso; omega) | refine run_ th rfl ?_)
     | (refine d_split rfl rfl rfl (fun hb => ?_) (fun hb => ?_) <;> (try simp only [hbL] at hb) <;> first | (exfalso; omega) | refine drun_ th rfl ?_)
     | (refine g_if rfl (fun hb => ?_) (fun hb => ?_) <;> (try simp only [hbL] at hb) <;> (try (exfalso; omega)))
     | refine g_end th Tryd.func81 (.inr ⟨_, rfl⟩) rfl rfl rfl ⟨?_, rfl⟩
     | (refine s_str th rfl rfl rfl rfl rfl rfl rfl 0 c rfl hc ?_; refine run_ th rfl ?_)
     | (refine s_call (letter_c _) [] rfl rfl rfl rfl rfl rfl rfl rfl rfl rfl ?_; refine run_ th rfl ?_)
     | (refine s_call (keyword_c _) [] rfl rfl rfl rfl rfl rfl rfl rfl rfl rfl ?_; refine run_ th rfl ?_))
    · simp [packS, hn, show ¬ r.length < 12 by omega]
    · simp [packS, hn, hb]
    · simp [packS, hn, hb]
    · rename_i hl1 hk1
      refine g_loop1 (fun k : Nat => k ≤ r.length ∧ (r.take k).all nchB = true) (fun k => [(0, .v (C1 (.str s))), (3, .v (C1 (.int .i64 (k + 1 : Int))))]) (fun _ => []) (fun k => r.length - k) 0 ⟨Nat.zero_le _, rfl⟩
        (fun a w h => h.sub (by exact ⟨⟨_, rfl, .refl _⟩, ⟨_, rfl, le_int rfl⟩, trivial⟩) (by exact trivial) rfl rfl rfl) (fun k hk ih => ?_)
      obtain ⟨hk, hok⟩ := hk
      by_cases hlt : k < r.length
      · have hx : s.data.toList[k + 1]? = some r[k] := by rw [hl]; simp [hlt]
        have hnx : (r.take (k + 1)).all nchB = nchB r[k] := by
          rw [List.take_succ_eq_append_getElem hlt, List.all_append, hok]; simp
        repeat' (first
         | refine gc_ rfl ?_
         | (refine g_region ?_; refine run_ th rfl ?_)
         | (refine g_drawC mix rfl rfl ?_; refine drun_ th rfl ?_)
         | (refine g_drawEC mix rfl rfl ?_; refine erun_ th rfl ?_)
         | refine SOps.nil ?_
         | refine DOps.nil ?_
         | refine EOps.nil ?_ rfl rfl
         | (refine s_split rfl rfl (fun hb => ?_) (fun hb => ?_) <;> (try simp only [hbL] at hb) <;> first | (exfalso; omega) | refine run_ th rfl ?_)
         | (refine d_split rfl rfl rfl (fun hb => ?_) (fun hb => ?_) <;> (try simp only [hbL] at hb) <;> first | (exfalso; omega) | refine drun_ th rfl ?_)
         | (refine g_if rfl (fun hb => ?_) (fun hb => ?_) <;> (try simp only [hbL] at hb) <;> (try (exfalso; omega)))
         | refine g_end th Tryd.func81 (.inr ⟨_, rfl⟩) rfl rfl rfl ⟨?_, rfl⟩
         | (refine s_str th rfl rfl rfl rfl rfl rfl rfl (k + 1) r[k] rfl hx ?_; refine run_ th rfl ?_)
         | (refine s_call (letter_c _) [] rfl rfl rfl rfl rfl rfl rfl rfl rfl rfl ?_; refine run_ th rfl ?_)
         | (refine s_call (digit_c _) [] rfl rfl rfl rfl rfl rfl rfl rfl rfl rfl ?_; refine run_ th rfl ?_)
         | (refine s_add rfl rfl rfl rfl rfl rfl (by omega) ?_; refine run_ th rfl ?_))
        · have : r.all nchB = false := by
            rw [List.all_eq_false]
            exact ⟨r[k], List.getElem_mem hlt, by simp [nchB, *]⟩
          simp [packS, hn, this]
        · exact g_sub (by exact ⟨⟨_, rfl, .refl _⟩, ⟨_, rfl, le_int (by omega)⟩, trivial⟩) (by exact trivial) rfl rfl rfl (ih (k + 1) ⟨hlt, by rw [hnx]; simp [nchB, *]⟩ (by omega))
        · exact g_sub (by exact ⟨⟨_, rfl, .refl _⟩, ⟨_, rfl, le_int (by omega)⟩, trivial⟩) (by exact trivial) rfl rfl rfl (ih (k + 1) ⟨hlt, by rw [hnx]; simp [nchB, *]⟩ (by omega))
      · have hke : k = r.length := by omega
        subst hke
        rw [List.take_length] at hok
        repeat' (first
         | refine gc_ rfl ?_
         | (refine g_region ?_; refine run_ th rfl ?_)
         | (refine g_drawC mix rfl rfl ?_; refine drun_ th rfl ?_)
         | (refine g_drawEC mix rfl rfl ?_; refine erun_ th rfl ?_)
         | refine SOps.nil ?_
         | refine DOps.nil ?_
         | refine EOps.nil ?_ rfl rfl
         | (refine s_split rfl rfl (fun hb => ?_) (fun hb => ?_) <;> (try simp only [hbL] at hb) <;> first | (exfalso; omega) | refine run_ th rfl ?_)
         | (refine d_split rfl rfl rfl (fun hb => ?_) (fun hb => ?_) <;> (try simp only [hbL] at hb) <;> first | (exfalso; omega) | refine drun_ th rfl ?_)
         | (refine g_if rfl (fun hb => ?_) (fun hb => ?_) <;> (try simp only [hbL] at hb) <;> (try (exfalso; omega)))
         | refine g_end th Tryd.func81 (.inr ⟨_, rfl⟩) rfl rfl rfl ⟨?_, rfl⟩)
        · have : r.length < 12 := by omega
          simp [packS, hn, this, hok, hk1, *]
end Go.Sy

/- Contracts: a valid book. -/
namespace Go.Sy
open Go.Proofs
set_option maxRecDepth 100000
attribute [local irreducible] SOps Goes DOps

def sortB (k at_ n : Int) : Bool :=
  if k = 5 then decide (at_ ≥ 0) && decide (at_ < n) else decide (k ≥ 0) && decide (k < 5) && decide (at_ = 0)

theorem sort_c (k at_ n : Int) : Con Tryd.prog 82 [] [Ag [.int .i64 k, .int .i64 at_], C1 (.int .i64 n)] (Rv (.bool (sortB k at_ n))) [] := by
  refine con_of (c := _) Tryd.func82 rfl rfl rfl (by decide) fun w M0 H Z => ?_
  repeat' (first
   | refine gc_ rfl ?_
   | (refine g_region ?_; refine run_ th rfl ?_)
   | (refine g_drawC mix rfl rfl ?_; refine drun_ th rfl ?_)
   | (refine g_drawEC mix rfl rfl ?_; refine erun_ th rfl ?_)
   | refine SOps.nil ?_
   | refine DOps.nil ?_
   | refine EOps.nil ?_ rfl rfl
   | (refine s_split rfl rfl (fun hb => ?_) (fun hb => ?_) <;> (try simp only [hbL] at hb) <;> first | (exfalso; omega) | refine run_ th rfl ?_)
   | (refine d_split rfl rfl rfl (fun hb => ?_) (fun hb => ?_) <;> (try simp only [hbL] at hb) <;> first | (exfalso; omega) | refine drun_ th rfl ?_)
   | (refine g_if rfl (fun hb => ?_) (fun hb => ?_) <;> (try simp only [hbL] at hb) <;> (try (exfalso; omega)))
   | refine g_end th Tryd.func82 (.inr ⟨_, rfl⟩) rfl rfl rfl ⟨?_, rfl⟩)
  all_goals simp [packS, sortB, *]

def okAt (n : Int) (l : List Edge) (i : Nat) : Bool :=
  match l[i]? with
  | none => true
  | some e => nameB e.label && ((match i with | 0 => true | j + 1 => (match l[j]? with | some p => sLt p.label e.label | none => true)) && (decide (0 ≤ e.next) && (decide (e.next < n) && sortB e.kind e.at_ n)))
def armsB (n : Int) (l : List Edge) : Bool := (List.range l.length).all (okAt n l)
def nodeB (n : Int) (x : Nd) : Bool :=
  if x.kind = 0 then decide (x.peer = ⟨#[]⟩) && decide (x.arms.length = 0)
  else (decide (x.kind = 1) || decide (x.kind = 2)) && (nameB x.peer && (decide (1 ≤ x.arms.length) && (decide (x.arms.length ≤ 6) && armsB n x.arms)))

theorem okAt_zero {n : Int} {l : List Edge} (h : 0 < l.length) :
    okAt n l 0 = (nameB l[0].label && (decide (0 ≤ l[0].next) && (decide (l[0].next < n) && sortB l[0].kind l[0].at_ n))) := by simp [okAt, h]
theorem okAt_succ {n : Int} {l : List Edge} {j : Nat} (h : j + 1 < l.length) :
    okAt n l (j + 1) = (nameB l[j + 1].label && (sLt l[j].label l[j + 1].label && (decide (0 ≤ l[j + 1].next) && (decide (l[j + 1].next < n) && sortB l[j + 1].kind l[j + 1].at_ n)))) := by
  simp [okAt, h, show j < l.length by omega]
theorem armsB_false {n : Int} {l : List Edge} {k : Nat} (hk : k < l.length) (h : okAt n l k = false) : armsB n l = false :=
  List.all_eq_false.2 ⟨k, List.mem_range.2 hk, by simp [h]⟩

set_option maxHeartbeats 4000000 in
theorem node_c (x : Nd) (n : Int) : Con Tryd.prog 75 [] [Ag x.cs, C1 (.int .i64 n)] (Rv (.bool (nodeB n x))) [] := by
  obtain ⟨kind, peer, arms⟩ := x
  refine con_of (c := _) Tryd.func75 rfl rfl rfl (by decide) fun w M0 H Z => ?_
  repeat' (first
   | refine gc_ rfl ?_
   | (refine g_region ?_; refine run_ th rfl ?_)
   | (refine g_drawC mix rfl rfl ?_; refine drun_ th rfl ?_)
   | (refine g_drawEC mix rfl rfl ?_; refine erun_ th rfl ?_)
   | refine SOps.nil ?_
   | refine DOps.nil ?_
   | refine EOps.nil ?_ rfl rfl
   | (refine s_split rfl rfl (fun hb => ?_) (fun hb => ?_) <;> (try simp only [hbL] at hb) <;> first | (exfalso; omega) | refine run_ th rfl ?_)
   | (refine d_split rfl rfl rfl (fun hb => ?_) (fun hb => ?_) <;> (try simp only [hbL] at hb) <;> first | (exfalso; omega) | refine drun_ th rfl ?_)
   | (refine g_if rfl (fun hb => ?_) (fun hb => ?_) <;> (try simp only [hbL] at hb) <;> (try (exfalso; omega)))
   | refine g_end th Tryd.func75 (.inr ⟨_, rfl⟩) rfl rfl rfl ⟨?_, rfl⟩
   | (refine s_call (may_c _) [] rfl rfl rfl rfl rfl rfl rfl rfl rfl rfl ?_; refine run_ th rfl ?_))
  all_goals try simp only [List.length_map] at *
  all_goals try (simp [packS, nodeB, *]; done)
  all_goals try (simp [packS, nodeB, *]; omega)
  all_goals
    have hnode : nodeB n ⟨kind, peer, arms⟩ = armsB n arms := by
      have h1 : 1 ≤ arms.length := by omega
      have h2 : arms.length ≤ 6 := by omega
      simp [nodeB, *]
    refine g_loop1 (fun k : Nat => k ≤ arms.length ∧ (List.range k).all (okAt n arms) = true)
      (fun k => [(1, .v (C1 (.int .i64 n))), (2, .v (.one (.ptr 2 0))), (46, .v (C1 (armsT arms))), (47, .v (C1 (.int .i64 (arms.length : Int)))), (48, .v (C1 (.int .i64 (k : Int))))])
      (fun _ => [(2, .box [.c (.int .i64 kind), .c (.str peer), .c (armsT arms)])]) (fun k => arms.length - k) 0 ⟨Nat.zero_le _, rfl⟩
      (fun a w h => h.sub (by exact ⟨⟨_, rfl, .refl _⟩, ⟨_, rfl, .refl _⟩, ⟨_, rfl, .refl _⟩, ⟨_, rfl, le_int (by simp)⟩, ⟨_, rfl, le_int rfl⟩, trivial⟩) (by exact ⟨⟨_, rfl, .refl _⟩, trivial⟩) rfl rfl rfl) (fun k hk ih => ?_)
    obtain ⟨hk, hok⟩ := hk
    by_cases hlt : k < arms.length
    · have hx : (arms.map Edge.cs)[k]? = some (arms[k]).cs := by simp [hlt]
      cases k with
      | zero =>
        repeat' (first
         | refine gc_ rfl ?_
         | (refine g_region ?_; refine run_ th rfl ?_)
         | (refine g_drawC mix rfl rfl ?_; refine drun_ th rfl ?_)
         | (refine g_drawEC mix rfl rfl ?_; refine erun_ th rfl ?_)
         | refine SOps.nil ?_
         | refine DOps.nil ?_
         | refine EOps.nil ?_ rfl rfl
         | (refine s_split rfl rfl (fun hb => ?_) (fun hb => ?_) <;> (try simp only [hbL] at hb) <;> first | (exfalso; omega) | refine run_ th rfl ?_)
         | (refine d_split rfl rfl rfl (fun hb => ?_) (fun hb => ?_) <;> (try simp only [hbL] at hb) <;> first | (exfalso; omega) | refine drun_ th rfl ?_)
         | (refine g_if rfl (fun hb => ?_) (fun hb => ?_) <;> (try simp only [hbL] at hb) <;> (try (exfalso; omega)))
         | refine g_end th Tryd.func75 (.inr ⟨_, rfl⟩) rfl rfl rfl ⟨?_, rfl⟩
         | (refine s_idx th rfl rfl rfl rfl rfl rfl rfl rfl rfl 0 (arms[0]).cs rfl hx ?_; refine run_ th rfl ?_)
         | (refine s_add rfl rfl rfl rfl rfl rfl (by omega) ?_; refine run_ th rfl ?_)
         | (refine d_call (may_c _) [] rfl rfl rfl rfl rfl rfl rfl rfl rfl rfl rfl ?_; refine drun_ th rfl ?_)
         | (refine d_call (sort_c _ _ _) [] rfl rfl rfl rfl rfl rfl rfl rfl rfl rfl rfl ?_; refine drun_ th rfl ?_))
        all_goals first
          | (have hbad : okAt n arms 0 = false := by
               clear ih
               rw [okAt_zero hlt]
               first | (simp [*]; done) | (simp [*]; intros; omega) | (simp [*]; intros; exfalso; omega)
             simp [packS, hnode, armsB_false hlt hbad]; done)
          | (refine g_sub (by exact ⟨⟨_, rfl, .refl _⟩, ⟨_, rfl, .refl _⟩, ⟨_, rfl, .refl _⟩, ⟨_, rfl, le_int rfl⟩, ⟨_, rfl, le_int (by omega)⟩, trivial⟩) (by exact ⟨⟨_, rfl, .refl _⟩, trivial⟩) rfl rfl rfl (ih (0 + 1) ⟨hlt, ?_⟩ (by omega))
             rw [List.range_succ, List.all_append, hok]
             clear ih
             simp only [List.all_cons, List.all_nil, Bool.true_and, Bool.and_true]
             rw [okAt_zero hlt]
             first | (simp [*]; done) | (simp [*]; omega))
      | succ j =>
        have hx' : (arms.map Edge.cs)[j]? = some (arms[j]).cs := by simp [show j < arms.length by omega]
        repeat' (first
         | refine gc_ rfl ?_
         | (refine g_region ?_; refine run_ th rfl ?_)
         | (refine g_drawC mix rfl rfl ?_; refine drun_ th rfl ?_)
         | (refine g_drawEC mix rfl rfl ?_; refine erun_ th rfl ?_)
         | refine SOps.nil ?_
         | refine DOps.nil ?_
         | refine EOps.nil ?_ rfl rfl
         | (refine s_split rfl rfl (fun hb => ?_) (fun hb => ?_) <;> (try simp only [hbL] at hb) <;> first | (exfalso; omega) | refine run_ th rfl ?_)
         | (refine d_split rfl rfl rfl (fun hb => ?_) (fun hb => ?_) <;> (try simp only [hbL] at hb) <;> first | (exfalso; omega) | refine drun_ th rfl ?_)
         | (refine g_if rfl (fun hb => ?_) (fun hb => ?_) <;> (try simp only [hbL] at hb) <;> (try (exfalso; omega)))
         | refine g_end th Tryd.func75 (.inr ⟨_, rfl⟩) rfl rfl rfl ⟨?_, rfl⟩
         | (refine s_idx th rfl rfl rfl rfl rfl rfl rfl rfl rfl (j + 1) (arms[j + 1]).cs rfl hx ?_; refine run_ th rfl ?_)
         | (refine s_add rfl rfl rfl rfl rfl rfl (by omega) ?_; refine run_ th rfl ?_)
         | (refine d_call (may_c _) [] rfl rfl rfl rfl rfl rfl rfl rfl rfl rfl rfl ?_; refine drun_ th rfl ?_)
         | (refine d_call (sort_c _ _ _) [] rfl rfl rfl rfl rfl rfl rfl rfl rfl rfl rfl ?_; refine drun_ th rfl ?_)
         | (refine d_subI rfl rfl rfl rfl rfl rfl (by omega) ?_; refine drun_ th rfl ?_)
         | (refine d_idx th rfl rfl rfl rfl rfl rfl rfl rfl rfl j (arms[j]).cs (by omega) hx' ?_; refine drun_ th rfl ?_))
        all_goals first
          | (have hbad : okAt n arms (j + 1) = false := by
               clear ih
               rw [okAt_succ hlt]
               first | (simp [*]; done) | (simp [*]; intros; omega) | (simp [*]; intros; exfalso; omega)
             simp [packS, hnode, armsB_false hlt hbad]; done)
          | (refine g_sub (by exact ⟨⟨_, rfl, .refl _⟩, ⟨_, rfl, .refl _⟩, ⟨_, rfl, .refl _⟩, ⟨_, rfl, le_int rfl⟩, ⟨_, rfl, le_int (by omega)⟩, trivial⟩) (by exact ⟨⟨_, rfl, .refl _⟩, trivial⟩) rfl rfl rfl (ih ((j + 1) + 1) ⟨hlt, ?_⟩ (by omega))
             rw [List.range_succ, List.all_append, hok]
             clear ih
             simp only [List.all_cons, List.all_nil, Bool.true_and, Bool.and_true]
             rw [okAt_succ hlt]
             first | (simp [*]; done) | (simp [*]; omega))
    · have hke : k = arms.length := by omega
      subst hke
      repeat' (first
       | refine gc_ rfl ?_
       | (refine g_region ?_; refine run_ th rfl ?_)
       | (refine g_drawC mix rfl rfl ?_; refine drun_ th rfl ?_)
       | (refine g_drawEC mix rfl rfl ?_; refine erun_ th rfl ?_)
       | refine SOps.nil ?_
       | refine DOps.nil ?_
       | refine EOps.nil ?_ rfl rfl
       | (refine s_split rfl rfl (fun hb => ?_) (fun hb => ?_) <;> (try simp only [hbL] at hb) <;> first | (exfalso; omega) | refine run_ th rfl ?_)
       | (refine d_split rfl rfl rfl (fun hb => ?_) (fun hb => ?_) <;> (try simp only [hbL] at hb) <;> first | (exfalso; omega) | refine drun_ th rfl ?_)
       | (refine g_if rfl (fun hb => ?_) (fun hb => ?_) <;> (try simp only [hbL] at hb) <;> (try (exfalso; omega)))
       | refine g_end th Tryd.func75 (.inr ⟨_, rfl⟩) rfl rfl rfl ⟨?_, rfl⟩)
      all_goals simp [packS, hnode, armsB, hok]

end Go.Sy

/- Contracts: a valid book. -/
namespace Go.Sy
open Go.Proofs
set_option maxRecDepth 100000
attribute [local irreducible] SOps Goes DOps

def rootAt (b : Bk) (i : Nat) : Bool :=
  match b.roots[i]? with
  | none => true
  | some r => decide (0 ≤ r) && (decide (r < (b.nodes.length : Int)) && (match i with | 0 => true | j + 1 => (match b.names[j]?, b.names[j + 1]? with | some p, some q => sLt p q | _, _ => true)))
/-- A valid book (P9.1). -/
def bookB (b : Bk) : Bool :=
  decide (b.nodes.length ≤ 400) && (decide (b.names.length = b.roots.length) && ((List.range b.roots.length).all (rootAt b) && b.nodes.all (nodeB b.nodes.length)))

theorem rootAt_zero {b : Bk} (h : 0 < b.roots.length) : rootAt b 0 = (decide (0 ≤ b.roots[0]) && decide (b.roots[0] < (b.nodes.length : Int))) := by simp [rootAt, h]
theorem rootAt_succ {b : Bk} {j : Nat} (h : j + 1 < b.roots.length) (hn : j + 1 < b.names.length) :
    rootAt b (j + 1) = (decide (0 ≤ b.roots[j + 1]) && (decide (b.roots[j + 1] < (b.nodes.length : Int)) && sLt b.names[j] b.names[j + 1])) := by
  simp [rootAt, h, hn, show j < b.names.length by omega]
theorem bookB_root {b : Bk} {k : Nat} (hk : k < b.roots.length) (h : rootAt b k = false) : bookB b = false := by
  have : (List.range b.roots.length).all (rootAt b) = false := List.all_eq_false.2 ⟨k, List.mem_range.2 hk, by simp [h]⟩
  simp [bookB, this]
theorem bookB_node {b : Bk} {k : Nat} (hk : k < b.nodes.length) (h : nodeB b.nodes.length b.nodes[k] = false) : bookB b = false := by
  have : b.nodes.all (nodeB b.nodes.length) = false := List.all_eq_false.2 ⟨b.nodes[k], List.getElem_mem hk, by simp [h]⟩
  simp [bookB, this]

set_option maxHeartbeats 4000000 in
theorem bookmay_c (b : Bk) : Con Tryd.prog 62 [] [Ag b.cs] (Rv (.bool (bookB b))) [] := by
  obtain ⟨nodes, names, roots⟩ := b
  refine con_of (c := _) Tryd.func62 rfl rfl rfl (by decide) fun w M0 H Z => ?_
  repeat' (first
   | refine gc_ rfl ?_
   | (refine g_region ?_; refine run_ th rfl ?_)
   | (refine g_drawC mix rfl rfl ?_; refine drun_ th rfl ?_)
   | (refine g_drawEC mix rfl rfl ?_; refine erun_ th rfl ?_)
   | refine SOps.nil ?_
   | refine DOps.nil ?_
   | refine EOps.nil ?_ rfl rfl
   | (refine s_split rfl rfl (fun hb => ?_) (fun hb => ?_) <;> (try simp only [hbL] at hb) <;> first | (exfalso; omega) | refine run_ th rfl ?_)
   | (refine d_split rfl rfl rfl (fun hb => ?_) (fun hb => ?_) <;> (try simp only [hbL] at hb) <;> first | (exfalso; omega) | refine drun_ th rfl ?_)
   | (refine g_if rfl (fun hb => ?_) (fun hb => ?_) <;> (try simp only [hbL] at hb) <;> (try (exfalso; omega)))
   | refine g_end th Tryd.func62 (.inr ⟨_, rfl⟩) rfl rfl rfl ⟨?_, rfl⟩)
  all_goals try simp only [List.length_map] at *
  · have : ¬ nodes.length ≤ 400 := by omega
    simp [packS, bookB, this]
  · simp [packS, bookB, *]; omega
  · have h400 : nodes.length ≤ 400 := by omega
    have hnr : names.length = roots.length := by omega
    refine g_len 21 rfl fun hrl => ?_
    simp only [List.length_map] at hrl
    refine g_loop1 (fun k : Nat => k ≤ roots.length ∧ (List.range k).all (rootAt ⟨nodes, names, roots⟩) = true)
      (fun k => [(1, .v (.one (.ptr 1 0))), (21, .v (C1 (intsT roots))), (22, .v (C1 (.int .i64 (roots.length : Int)))), (23, .v (C1 (.int .i64 (k : Int))))])
      (fun _ => [(1, .box [.c (nodesT nodes), .c (namesT names), .c (intsT roots)])]) (fun k => roots.length - k) 0 ⟨Nat.zero_le _, rfl⟩
      (fun a w h => h.sub (by exact ⟨⟨_, rfl, .refl _⟩, ⟨_, rfl, .refl _⟩, ⟨_, rfl, le_int (by simp)⟩, ⟨_, rfl, le_int rfl⟩, trivial⟩) (by exact ⟨⟨_, rfl, .refl _⟩, trivial⟩) rfl rfl rfl) (fun k hk ih => ?_)
    obtain ⟨hk, hok⟩ := hk
    by_cases hlt : k < roots.length
    · have hx : (roots.map fun r => [CT.int .i64 r])[k]? = some [.int .i64 roots[k]] := by simp [hlt]
      cases k with
      | zero =>
        repeat' (first
         | refine gc_ rfl ?_
         | (refine g_region ?_; refine run_ th rfl ?_)
         | (refine g_drawC mix rfl rfl ?_; refine drun_ th rfl ?_)
         | (refine g_drawEC mix rfl rfl ?_; refine erun_ th rfl ?_)
         | refine SOps.nil ?_
         | refine DOps.nil ?_
         | refine EOps.nil ?_ rfl rfl
         | (refine s_split rfl rfl (fun hb => ?_) (fun hb => ?_) <;> (try simp only [hbL] at hb) <;> first | (exfalso; omega) | refine run_ th rfl ?_)
         | (refine d_split rfl rfl rfl (fun hb => ?_) (fun hb => ?_) <;> (try simp only [hbL] at hb) <;> first | (exfalso; omega) | refine drun_ th rfl ?_)
         | (refine g_if rfl (fun hb => ?_) (fun hb => ?_) <;> (try simp only [hbL] at hb) <;> (try (exfalso; omega)))
         | refine g_end th Tryd.func62 (.inr ⟨_, rfl⟩) rfl rfl rfl ⟨?_, rfl⟩
         | (refine s_add rfl rfl rfl rfl rfl rfl (by omega) ?_; refine run_ th rfl ?_)
         | (refine s_idx th rfl rfl rfl rfl rfl rfl rfl rfl rfl 0 _ rfl hx ?_; refine run_ th rfl ?_))
        all_goals try simp only [List.length_map] at *
        all_goals first
          | (have hbad : rootAt ⟨nodes, names, roots⟩ 0 = false := by
               clear ih
               rw [rootAt_zero hlt]
               first | (simp [*]; done) | (simp; omega)
             simp [packS, bookB_root hlt hbad]; done)
          | (refine g_sub (by exact ⟨⟨_, rfl, .refl _⟩, ⟨_, rfl, .refl _⟩, ⟨_, rfl, .refl _⟩, ⟨_, rfl, le_int (by omega)⟩, trivial⟩) (by exact ⟨⟨_, rfl, .refl _⟩, trivial⟩) rfl rfl rfl (ih (0 + 1) ⟨hlt, ?_⟩ (by omega))
             rw [List.range_succ, List.all_append, hok]
             clear ih
             simp only [List.all_cons, List.all_nil, Bool.true_and, Bool.and_true]
             rw [rootAt_zero hlt]
             first | (simp [*]; done) | (simp; omega))
      | succ j =>
        have hx1 : (names.map fun s => [CT.str s])[j]? = some [.str names[j]] := by simp [show j < names.length by omega]
        have hx2 : (names.map fun s => [CT.str s])[j + 1]? = some [.str names[j + 1]] := by simp [show j + 1 < names.length by omega]
        repeat' (first
         | refine gc_ rfl ?_
         | (refine g_region ?_; refine run_ th rfl ?_)
         | (refine g_drawC mix rfl rfl ?_; refine drun_ th rfl ?_)
         | (refine g_drawEC mix rfl rfl ?_; refine erun_ th rfl ?_)
         | refine SOps.nil ?_
         | refine DOps.nil ?_
         | refine EOps.nil ?_ rfl rfl
         | (refine s_split rfl rfl (fun hb => ?_) (fun hb => ?_) <;> (try simp only [hbL] at hb) <;> first | (exfalso; omega) | refine run_ th rfl ?_)
         | (refine d_split rfl rfl rfl (fun hb => ?_) (fun hb => ?_) <;> (try simp only [hbL] at hb) <;> first | (exfalso; omega) | refine drun_ th rfl ?_)
         | (refine g_if rfl (fun hb => ?_) (fun hb => ?_) <;> (try simp only [hbL] at hb) <;> (try (exfalso; omega)))
         | refine g_end th Tryd.func62 (.inr ⟨_, rfl⟩) rfl rfl rfl ⟨?_, rfl⟩
         | (refine s_add rfl rfl rfl rfl rfl rfl (by omega) ?_; refine run_ th rfl ?_)
         | (refine s_idx th rfl rfl rfl rfl rfl rfl rfl rfl rfl (j + 1) _ rfl hx ?_; refine run_ th rfl ?_)
         | (refine d_subI rfl rfl rfl rfl rfl rfl (by omega) ?_; refine drun_ th rfl ?_)
         | (refine d_idx th rfl rfl rfl rfl rfl rfl rfl rfl rfl j _ (by omega) hx1 ?_; refine drun_ th rfl ?_)
         | (refine d_idx th rfl rfl rfl rfl rfl rfl rfl rfl rfl (j + 1) _ (by omega) hx2 ?_; refine drun_ th rfl ?_))
        all_goals try simp only [List.length_map] at *
        all_goals first
          | (have hbad : rootAt ⟨nodes, names, roots⟩ (j + 1) = false := by
               clear ih
               rw [rootAt_succ hlt (by simp only; omega)]
               first | (simp [*]; done) | (simp [*]; omega)
             simp [packS, bookB_root hlt hbad]; done)
          | (refine g_sub (by exact ⟨⟨_, rfl, .refl _⟩, ⟨_, rfl, .refl _⟩, ⟨_, rfl, .refl _⟩, ⟨_, rfl, le_int (by omega)⟩, trivial⟩) (by exact ⟨⟨_, rfl, .refl _⟩, trivial⟩) rfl rfl rfl (ih (j + 1 + 1) ⟨hlt, ?_⟩ (by omega))
             rw [List.range_succ, List.all_append, hok]
             clear ih
             simp only [List.all_cons, List.all_nil, Bool.true_and, Bool.and_true]
             rw [rootAt_succ hlt (by simp only; omega)]
             first | (simp [*]; done) | (simp [*]; omega))
    · have hke : k = roots.length := by omega
      subst hke
      have hall : bookB ⟨nodes, names, roots⟩ = nodes.all (nodeB nodes.length) := by simp [bookB, h400, hnr, hok]
      clear ih hok
      repeat' (first
       | refine gc_ rfl ?_
       | (refine g_region ?_; refine run_ th rfl ?_)
       | (refine g_drawC mix rfl rfl ?_; refine drun_ th rfl ?_)
       | (refine g_drawEC mix rfl rfl ?_; refine erun_ th rfl ?_)
       | refine SOps.nil ?_
       | refine DOps.nil ?_
       | refine EOps.nil ?_ rfl rfl
       | (refine s_split rfl rfl (fun hb => ?_) (fun hb => ?_) <;> (try simp only [hbL] at hb) <;> first | (exfalso; omega) | refine run_ th rfl ?_)
       | (refine d_split rfl rfl rfl (fun hb => ?_) (fun hb => ?_) <;> (try simp only [hbL] at hb) <;> first | (exfalso; omega) | refine drun_ th rfl ?_)
       | (refine g_if rfl (fun hb => ?_) (fun hb => ?_) <;> (try simp only [hbL] at hb) <;> (try (exfalso; omega)))
       | refine g_end th Tryd.func62 (.inr ⟨_, rfl⟩) rfl rfl rfl ⟨?_, rfl⟩)
      all_goals try simp only [List.length_map] at *
      refine g_loop1 (fun k : Nat => k ≤ nodes.length ∧ (nodes.take k).all (nodeB nodes.length) = true)
        (fun k => [(1, .v (.one (.ptr 1 0))), (57, .v (C1 (nodesT nodes))), (58, .v (C1 (.int .i64 (nodes.length : Int)))), (59, .v (C1 (.int .i64 (k : Int))))])
        (fun _ => [(1, .box [.c (nodesT nodes), .c (namesT names), .c (intsT roots)])]) (fun k => nodes.length - k) 0 ⟨Nat.zero_le _, rfl⟩
        (fun a w h => h.sub (by exact ⟨⟨_, rfl, .refl _⟩, ⟨_, rfl, .refl _⟩, ⟨_, rfl, le_int (by simp)⟩, ⟨_, rfl, le_int rfl⟩, trivial⟩) (by exact ⟨⟨_, rfl, .refl _⟩, trivial⟩) rfl rfl rfl) (fun k hk ih => ?_)
      obtain ⟨hk, hok⟩ := hk
      by_cases hlt : k < nodes.length
      · have hx : (nodes.map Nd.cs)[k]? = some (nodes[k]).cs := by simp [hlt]
        have hcast : (((nodes.map Nd.cs).length : Nat) : Int) = (nodes.length : Int) := by simp
        have hcon := node_c nodes[k] (nodes.length : Int)
        rw [← hcast] at hcon
        repeat' (first
         | refine gc_ rfl ?_
         | (refine g_region ?_; refine run_ th rfl ?_)
         | (refine g_drawC mix rfl rfl ?_; refine drun_ th rfl ?_)
         | (refine g_drawEC mix rfl rfl ?_; refine erun_ th rfl ?_)
         | refine SOps.nil ?_
         | refine DOps.nil ?_
         | refine EOps.nil ?_ rfl rfl
         | (refine s_split rfl rfl (fun hb => ?_) (fun hb => ?_) <;> (try simp only [hbL] at hb) <;> first | (exfalso; omega) | refine run_ th rfl ?_)
         | (refine d_split rfl rfl rfl (fun hb => ?_) (fun hb => ?_) <;> (try simp only [hbL] at hb) <;> first | (exfalso; omega) | refine drun_ th rfl ?_)
         | (refine g_if rfl (fun hb => ?_) (fun hb => ?_) <;> (try simp only [hbL] at hb) <;> (try (exfalso; omega)))
         | refine g_end th Tryd.func62 (.inr ⟨_, rfl⟩) rfl rfl rfl ⟨?_, rfl⟩
         | (refine s_add rfl rfl rfl rfl rfl rfl (by omega) ?_; refine run_ th rfl ?_)
         | (refine s_idx th rfl rfl rfl rfl rfl rfl rfl rfl rfl k _ rfl hx ?_; refine run_ th rfl ?_)
         | (refine s_call hcon [] rfl rfl rfl rfl rfl rfl rfl rfl rfl rfl ?_; refine run_ th rfl ?_))
        all_goals try simp only [List.length_map] at *
        all_goals first
          | (simp [packS, bookB_node (b := ⟨nodes, names, roots⟩) hlt hb]; done)
          | (refine g_sub (by exact ⟨⟨_, rfl, .refl _⟩, ⟨_, rfl, .refl _⟩, ⟨_, rfl, .refl _⟩, ⟨_, rfl, le_int (by omega)⟩, trivial⟩) (by exact ⟨⟨_, rfl, .refl _⟩, trivial⟩) rfl rfl rfl (ih (k + 1) ⟨hlt, ?_⟩ (by omega))
             rw [List.take_succ_eq_append_getElem hlt, List.all_append, hok]
             simp [hb])
      · have hke : k = nodes.length := by omega
        subst hke
        rw [List.take_length] at hok
        repeat' (first
         | refine gc_ rfl ?_
         | (refine g_region ?_; refine run_ th rfl ?_)
         | (refine g_drawC mix rfl rfl ?_; refine drun_ th rfl ?_)
         | (refine g_drawEC mix rfl rfl ?_; refine erun_ th rfl ?_)
         | refine SOps.nil ?_
         | refine DOps.nil ?_
         | refine EOps.nil ?_ rfl rfl
         | (refine s_split rfl rfl (fun hb => ?_) (fun hb => ?_) <;> (try simp only [hbL] at hb) <;> first | (exfalso; omega) | refine run_ th rfl ?_)
         | (refine d_split rfl rfl rfl (fun hb => ?_) (fun hb => ?_) <;> (try simp only [hbL] at hb) <;> first | (exfalso; omega) | refine drun_ th rfl ?_)
         | (refine g_if rfl (fun hb => ?_) (fun hb => ?_) <;> (try simp only [hbL] at hb) <;> (try (exfalso; omega)))
         | refine g_end th Tryd.func62 (.inr ⟨_, rfl⟩) rfl rfl rfl ⟨?_, rfl⟩)
        all_goals simp [packS, hall, hok]
end Go.Sy

/- Contracts: what is looked for in a row of edges. -/
namespace Go.Sy
open Go.Proofs
set_option maxRecDepth 100000
attribute [local irreducible] SOps Goes DOps EOps

def idxI (p : Edge → Bool) (l : List Edge) : Int :=
  match l.findIdx? p with
  | some i => (i : Int)
  | none => -1

theorem idxI_hit {p : Edge → Bool} {l : List Edge} {k : Nat} (hk : k < l.length) (ha : ∀ i (h : i < k), p (l[i]'(by omega)) = false) (hp : p l[k] = true) : idxI p l = (k : Int) := by
  have : l.findIdx? p = some k := by
    rw [List.findIdx?_eq_some_iff_getElem]
    exact ⟨hk, hp, fun j hj => by simp [ha j hj]⟩
  simp [idxI, this]
theorem idxI_none {p : Edge → Bool} {l : List Edge} (ha : ∀ i (h : i < l.length), p l[i] = false) : idxI p l = -1 := by
  have : l.findIdx? p = none := by
    rw [List.findIdx?_eq_none_iff]
    intro x hx
    obtain ⟨i, hi, rfl⟩ := List.mem_iff_getElem.1 hx
    simp [ha i hi]
  simp [idxI, this]

set_option maxHeartbeats 4000000 in
theorem indexFunc_c (p : Edge → Bool) (l : List Edge) (g : Nat) (c0 : CT)
    (hc : ∀ e : Edge, Con Tryd.prog g [[c0]] [Ag e.cs, .one (.ptr given 0)] (Rv (.bool (p e))) [[c0]]) :
    Con Tryd.prog 66 [[c0]] [C1 (armsT l), .one (.clo g [given])] (Rv (.int .i64 (idxI p l))) [[c0]] := by
  refine con_of (c := _) Tryd.func66 rfl rfl rfl (by decide) fun w M0 H Z => ?_
  repeat' (first
   | refine gc_ rfl ?_
   | (refine g_region ?_; refine run_ th rfl ?_)
   | (refine g_drawC mix rfl rfl ?_; refine drun_ th rfl ?_)
   | (refine g_drawEC mix rfl rfl ?_; refine erun_ th rfl ?_)
   | refine SOps.nil ?_
   | refine DOps.nil ?_
   | refine EOps.nil ?_ rfl rfl
   | (refine s_split rfl rfl (fun hb => ?_) (fun hb => ?_) <;> (try simp only [hbL] at hb) <;> first | (exfalso; omega) | refine run_ th rfl ?_)
   | (refine d_split rfl rfl rfl (fun hb => ?_) (fun hb => ?_) <;> (try simp only [hbL] at hb) <;> first | (exfalso; omega) | refine drun_ th rfl ?_)
   | (refine g_if rfl (fun hb => ?_) (fun hb => ?_) <;> (try simp only [hbL] at hb) <;> (try (exfalso; omega)))
   | refine g_end th Tryd.func66 (.inr ⟨_, rfl⟩) rfl rfl rfl ⟨?_, rfl⟩)
  all_goals try simp only [List.length_map] at *
  refine g_len 6 rfl fun hll => ?_
  simp only [List.length_map] at hll
  refine g_loop1 (fun k : Nat => k ≤ l.length ∧ ∀ i (h : i < k) (h' : i < l.length), p l[i] = false)
    (fun k => [(0, .v (C1 (armsT l))), (1, .v (.one (.clo g [given]))), (7, .v (C1 (.int .i64 (l.length : Int)))), (8, .v (C1 (.int .i64 (k : Int))))])
    (fun _ => [(given, .box [.c c0])]) (fun k => l.length - k) 0 ⟨Nat.zero_le _, fun i h => by omega⟩
    (fun a w h => h.sub (by exact ⟨⟨_, rfl, .refl _⟩, ⟨_, rfl, .refl _⟩, ⟨_, rfl, le_int (by simp)⟩, ⟨_, rfl, le_int rfl⟩, trivial⟩) (by exact ⟨⟨_, rfl, .refl _⟩, trivial⟩) rfl rfl rfl) (fun k hk ih => ?_)
  obtain ⟨hk, ha⟩ := hk
  by_cases hlt : k < l.length
  · have hx : (l.map Edge.cs)[k]? = some (l[k]).cs := by simp [hlt]
    repeat' (first
     | refine gc_ rfl ?_
     | (refine g_region ?_; refine run_ th rfl ?_)
     | (refine g_drawC mix rfl rfl ?_; refine drun_ th rfl ?_)
     | (refine g_drawEC mix rfl rfl ?_; refine erun_ th rfl ?_)
     | refine SOps.nil ?_
     | refine DOps.nil ?_
     | refine EOps.nil ?_ rfl rfl
     | (refine s_split rfl rfl (fun hb => ?_) (fun hb => ?_) <;> (try simp only [hbL] at hb) <;> first | (exfalso; omega) | refine run_ th rfl ?_)
     | (refine d_split rfl rfl rfl (fun hb => ?_) (fun hb => ?_) <;> (try simp only [hbL] at hb) <;> first | (exfalso; omega) | refine drun_ th rfl ?_)
     | (refine g_if rfl (fun hb => ?_) (fun hb => ?_) <;> (try simp only [hbL] at hb) <;> (try (exfalso; omega)))
     | refine g_end th Tryd.func66 (.inr ⟨_, rfl⟩) rfl rfl rfl ⟨?_, rfl⟩
     | (refine s_idx th rfl rfl rfl rfl rfl rfl rfl rfl rfl k _ rfl hx ?_; refine run_ th rfl ?_)
     | (refine s_clo (hc l[k]) [given] rfl rfl rfl rfl rfl rfl rfl rfl rfl rfl rfl rfl ?_; refine run_ th rfl ?_)
     | (refine s_add rfl rfl rfl rfl rfl rfl (by omega) ?_; refine run_ th rfl ?_))
    · simp [packS, idxI_hit hlt (fun i h => ha i h (by omega)) hb]
    · refine g_sub (by exact ⟨⟨_, rfl, .refl _⟩, ⟨_, rfl, .refl _⟩, ⟨_, rfl, .refl _⟩, ⟨_, rfl, le_int (by omega)⟩, trivial⟩) (by exact ⟨⟨_, rfl, .refl _⟩, trivial⟩) rfl rfl rfl (ih (k + 1) ⟨hlt, fun i h h' => ?_⟩ (by omega))
      by_cases hik : i = k
      · subst hik; exact hb
      · exact ha i (by omega) h'
  · have hke : k = l.length := by omega
    subst hke
    repeat' (first
     | refine gc_ rfl ?_
     | (refine g_region ?_; refine run_ th rfl ?_)
     | (refine g_drawC mix rfl rfl ?_; refine drun_ th rfl ?_)
     | (refine g_drawEC mix rfl rfl ?_; refine erun_ th rfl ?_)
     | refine SOps.nil ?_
     | refine DOps.nil ?_
     | refine EOps.nil ?_ rfl rfl
     | (refine s_split rfl rfl (fun hb => ?_) (fun hb => ?_) <;> (try simp only [hbL] at hb) <;> first | (exfalso; omega) | refine run_ th rfl ?_)
     | (refine d_split rfl rfl rfl (fun hb => ?_) (fun hb => ?_) <;> (try simp only [hbL] at hb) <;> first | (exfalso; omega) | refine drun_ th rfl ?_)
     | (refine g_if rfl (fun hb => ?_) (fun hb => ?_) <;> (try simp only [hbL] at hb) <;> (try (exfalso; omega)))
     | refine g_end th Tryd.func66 (.inr ⟨_, rfl⟩) rfl rfl rfl ⟨?_, rfl⟩)
    all_goals simp [packS, idxI_none (fun i h => ha i h h)]
end Go.Sy
