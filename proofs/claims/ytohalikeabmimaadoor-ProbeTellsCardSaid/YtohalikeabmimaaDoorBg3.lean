/- Contracts of the reference, bundle Bg3. -/
import Derived.Test.YtohalikeabmimaaDoorBg1
import Derived.Test.YtohalikeabmimaaDoorBg2
/- Contracts of layer 13: stage.Do. -/
set_option linter.unusedSimpArgs false
set_option linter.unusedVariables false
set_option linter.unusedSectionVars false
namespace Go.Sy
open Go.Proofs
set_option maxRecDepth 100000
attribute [local irreducible] SOps Goes DOps EOps FOps

/-- The nodes after a move: the arm with the label. -/
def stepAt (r : Nat) (label : ByteArray) (at_ : List Int) (arms : List Edge) : List Int := arms.foldl (fun l a => if a.label = label then l.set r a.next else l) at_
theorem stepAt_len (r : Nat) (label : ByteArray) (arms : List Edge) : ∀ at_ : List Int, (stepAt r label at_ arms).length = at_.length := by
  induction arms with
  | nil => intro at_; rfl
  | cons a l ih =>
    intro at_
    show (stepAt r label _ l).length = _
    rw [ih]
    dsimp only
    split <;> simp
theorem stepAt_succ {r : Nat} {label : ByteArray} {arms : List Edge} {j : Nat} (hj : j < arms.length) (at_ : List Int) :
    stepAt r label at_ (arms.take (j + 1)) = if arms[j].label = label then (stepAt r label at_ (arms.take j)).set r arms[j].next else stepAt r label at_ (arms.take j) := by
  unfold stepAt
  rw [List.take_succ_eq_append_getElem hj, List.foldl_append]; rfl
def peerN (b : Bk) (roles : List ByteArray) (s : Stg) (r : Nat) : Nat := (peerI b roles s r).toNat
/-- The queue that a move changes, what it holds then. -/
def moveQ (b : Bk) (roles : List ByteArray) (s : Stg) (m : Mv) : Nat :=
  if m.kind = 1 then m.role.toNat * roles.length + peerN b roles s m.role.toNat else peerN b roles s m.role.toNat * roles.length + m.role.toNat
def moveM (b : Bk) (roles : List ByteArray) (s : Stg) (m : Mv) : List ByteArray :=
  if m.kind = 1 then mailAt s (moveQ b roles s m) ++ [m.label] else (mailAt s (moveQ b roles s m)).drop 1
def doS (b : Bk) (roles : List ByteArray) (s : Stg) (m : Mv) : Stg :=
  ⟨stepAt m.role.toNat m.label s.at_ (stNd b s m.role.toNat).arms, s.mail.set (moveQ b roles s m) (moveM b roles s m)⟩
def doO (b : Bk) (roles : List ByteArray) (s : Stg) (m : Mv) : Stg × Int :=
  if mayS b roles s = false then (⟨[], []⟩, 1300) else if m ∉ movesS b roles s then (⟨[], []⟩, 1301) else (doS b roles s m, 0)
abbrev stgR (r : Stg × Int) : ST := .tup [Ag r.1.cs, C1 (.int .i64 r.2)]

/-- What is known of a move that is possible. -/
structure CanDo (b : Bk) (roles : List ByteArray) (s : Stg) (m : Mv) (r t : Nat) : Prop where
  lt : r < roles.length
  tlt : t < roles.length
  ne : t ≠ r
  role : m.role = (r : Int)
  peer : peerI b roles s r = (t : Int)
  kind : (m.kind = 1 ∧ (stNd b s r).kind = 1 ∧ (mailAt s (r * roles.length + t)).length < 64) ∨ (m.kind = 2 ∧ (stNd b s r).kind = 2 ∧ ∃ rest, mailAt s (t * roles.length + r) = m.label :: rest)
  arm : ∃ a ∈ (stNd b s r).arms, a.label = m.label
theorem mem_movesAt {b : Bk} {roles : List ByteArray} {s : Stg} {m : Mv} {r : Nat} (hr : r < roles.length) (h : m ∈ movesAt b roles s r) : ∃ t, CanDo b roles s m r t := by
  rcases peerI_range b roles s r with hp | ⟨t, ht, hne, hp⟩
  · simp [movesAt, hp] at h
  · have h0 : ¬ ((t : Int) < 0) := by omega
    simp only [movesAt, hp, h0, if_false, Int.toNat_natCast] at h
    split at h
    · rename_i hS
      obtain ⟨a, ha, rfl⟩ := List.mem_map.1 h
      exact ⟨t, hr, ht, hne, rfl, hp, .inl ⟨rfl, hS.1, hS.2⟩, a, ha, rfl⟩
    · split at h
      · rename_i hR
        split at h
        · cases h
        · rename_i q rest hq
          split at h
          · rename_i hany
            rw [List.mem_singleton] at h; subst h
            obtain ⟨a, ha, hal⟩ := List.any_eq_true.1 hany
            exact ⟨t, hr, ht, hne, rfl, hp, .inr ⟨rfl, hR, rest, hq⟩, a, ha, by simpa using hal⟩
          · cases h
      · cases h
theorem mem_moves {b : Bk} {roles : List ByteArray} {s : Stg} {m : Mv} (h : m ∈ movesS b roles s) : mayS b roles s = true ∧ ∃ r t, CanDo b roles s m r t := by
  unfold movesS at h
  split at h
  · rename_i hM
    refine ⟨hM, ?_⟩
    unfold movesUp at h
    rw [List.mem_flatMap] at h
    obtain ⟨r, hr, h⟩ := h
    obtain ⟨t, ht⟩ := mem_movesAt (List.mem_range.1 hr) h
    exact ⟨r, t, ht⟩
  · cases h
theorem mayS_long {b : Bk} {roles : List ByteArray} {s : Stg} (h : mayS b roles s = true) : ∀ m ∈ s.mail, m.length ≤ 64 := by
  simp only [mayS, Bool.and_eq_true] at h
  have h7 := h.2.2.2.2.2.2.2
  intro m hm
  have h8 : s.mail.any longB = false := by simpa using h7
  have := List.any_eq_false.1 h8 m hm
  simp [longB] at this
  omega
theorem mayS_big {b : Bk} {roles : List ByteArray} {s : Stg} (h : mayS b roles s = true) : StgBig s := by
  obtain ⟨h1, h2, h3, h4, _⟩ := mayS_at h
  have h5 : roles.length * roles.length ≤ 5 * 5 := Nat.mul_le_mul h2 h2
  exact ⟨by omega, by omega, fun m hm => by have := mayS_long h m hm; omega⟩

theorem qpool_get {hs : List Value} {ms : List (List ByteArray)} {q : Nat} {h : Value} {m : List ByteArray} (h1 : hs[q]? = some h) (h2 : ms[q]? = some m) : (qpool hs ms)[q]? = some (h, qrow m) := by
  have : (hs.zip ms)[q]? = some (h, m) := List.getElem?_zip_eq_some.2 ⟨h1, h2⟩
  simp [qpool, this]
theorem zip_set2 {α β : Type} : ∀ (l : List α) (r : List β) (q : Nat) (a : α) (b : β), (l.zip r).set q (a, b) = (l.set q a).zip (r.set q b)
  | [], _, q, a, b => by simp
  | x :: l, [], q, a, b => by cases q <;> simp
  | x :: l, y :: r, 0, a, b => by simp
  | x :: l, y :: r, q + 1, a, b => by simp [zip_set2 l r q a b]
theorem qpool_set {hs : List Value} {ms : List (List ByteArray)} {q : Nat} (h : Value) (m : List ByteArray) : (qpool hs ms).set q (h, qrow m) = qpool (hs.set q h) (ms.set q m) := by
  unfold qpool
  rw [← zip_set2, List.map_set]
theorem qpool_fst {hs : List Value} {ms : List (List ByteArray)} (h : hs.length = ms.length) : (qpool hs ms).map (fun q => [CT.val q.1]) = vrow hs := by
  unfold qpool vrow
  rw [List.map_map]
  apply List.ext_getElem
  · simp [h]
  · intro i h1 h2; simp
theorem qpool_snd {hs : List Value} {ms : List (List ByteArray)} (h : hs.length = ms.length) : (qpool hs ms).map (fun q => [CT.slice false 1 q.2]) = ms.map fun m => [namesT m] := by
  unfold qpool
  rw [List.map_map]
  apply List.ext_getElem
  · simp [h]
  · intro i h1 h2; simp
end Go.Sy

/- Contracts of layer 13: stage.Do, the walk. -/
namespace Go.Sy
open Go.Proofs
set_option maxRecDepth 100000
attribute [local irreducible] SOps Goes DOps EOps FOps

def doET : Nat → Value → TM
  | 1, v => [(57, .v (C1 (.val v)))]
  | _, _ => []
def doBase (b : Bk) (s : Stg) (m : Mv) (vA vM : Value) (rows : List (List CT)) (qs : PQ) : MM :=
  [(10, .box [.c (.val vA), .c (.val vM)]), (91, .pool 3 1 [(vA, irow s.at_)]), (92, .pool 23 1 [(vM, rows)]), (93, .pool 9 1 qs), (8, .box [.c .nils, .c .nils]),
   (7, .box [.c (.int .i64 m.kind), .c (.int .i64 m.role), .c (.str m.label)]), (6, .box [.c (intsT s.at_), .c (mailT s.mail)]), (4, .box [.c (nodesT b.nodes), .c (namesT b.names), .c (intsT b.roots)])]
def doMM (b : Bk) (s : Stg) (m : Mv) (vA vM : Value) (rows : List (List CT)) (qs : PQ) (q : Nat) (ys : List (List CT)) : Nat → Value → MM
  | 0, _ => doBase b s m vA vM rows qs
  | 1, v => doBase b s m vA vM rows (qs.set q (v, ys))
  | _, v => doBase b s m vA vM (rows.set q [.val v]) (qs.set q (v, ys))

def rcET : Nat → Unit → TM := fun _ _ => []
def rcBase (b : Bk) (s : Stg) (m : Mv) (vA vM : Value) (rows : List (List CT)) : MM :=
  [(10, .box [.c (.val vA), .c (.val vM)]), (91, .pool 3 1 [(vA, irow s.at_)]), (92, .pool 23 1 [(vM, rows)]), (8, .box [.c .nils, .c .nils]),
   (7, .box [.c (.int .i64 m.kind), .c (.int .i64 m.role), .c (.str m.label)]), (6, .box [.c (intsT s.at_), .c (mailT s.mail)]), (4, .box [.c (nodesT b.nodes), .c (namesT b.names), .c (intsT b.roots)])]
def rcMM (b : Bk) (s : Stg) (m : Mv) (vA vM : Value) (rows : List (List CT)) (q : Nat) (ys : List (List CT)) : Nat → Unit → MM
  | 0, _ => rcBase b s m vA vM rows
  | _, _ => rcBase b s m vA vM (rows.set q [.slice false 1 ys])

set_option maxHeartbeats 16000000 in
theorem do_c (b : Bk) (roles : List ByteArray) (s : Stg) (m : Mv) (hA : ArmsFew b) : Con Tryd.prog 21 [] [Ag b.cs, C1 (namesT roles), Ag s.cs, Ag m.cs] (stgR (doO b roles s m)) [] := by
  have hmay := stagemay_c b roles s
  have hmov := moves_c b roles s hA
  have hcon := containsMv_c (movesS b roles s) m
  cases hM : mayS b roles s with
  | false =>
    rw [hM] at hmay
    rw [show doO b roles s m = (⟨[], []⟩, 1300) by simp [doO, hM]]
    refine con_of (c := _) Tryd.func21 rfl rfl rfl (by decide) fun w M0 H Z => ?_
    repeat' (first
     | refine gc_ rfl ?_
     | (refine g_region ?_; refine run_ th rfl ?_)
     | (refine g_drawC mix rfl rfl ?_; refine drun_ th rfl ?_)
     | (refine g_drawEC mix rfl rfl ?_; refine erun_ th rfl ?_)
     | refine SOps.nil ?_
     | refine DOps.nil ?_
     | refine EOps.nil ?_ rfl rfl
     | (refine s_split rfl rfl (fun hb => ?_) (fun hb => ?_) <;> (try simp only [hbL] at hb) <;> first | (exfalso; omega) | refine run_ th rfl ?_)
     | (refine d_split rfl rfl rfl (fun hb => ?_) (fun hb => ?_) <;> (try simp only [hbL] at hb) <;> first | (exfalso; omega) | refine drun_ th rfl ?_)
     | (refine g_if rfl (fun hb => ?_) (fun hb => ?_) <;> (try simp only [hbL] at hb) <;> (try (exfalso; omega)))
     | refine g_endL th Tryd.func21 (.inr ⟨_, rfl⟩) rfl rfl rfl ?_ rfl
     | (refine s_call hmay [] rfl rfl rfl rfl rfl rfl rfl rfl rfl rfl ?_; refine run_ th rfl ?_))
    all_goals first | exact .tup (.cons (.agg (.cons (.c (.nil 1)) (.cons (.c (.nil 1)) .nil))) (.cons (.refl _) .nil)) | (exfalso; revert hb; decide)
  | true =>
    rw [hM] at hmay
    by_cases hmem : m ∈ movesS b roles s
    · rw [show decide (m ∈ movesS b roles s) = true by simpa using hmem] at hcon
      obtain ⟨hn1, hn2, hn3, hn4, hro⟩ := mayS_at hM
      obtain ⟨_, r, t, hcd⟩ := mem_moves hmem
      have hrt := hcd.lt
      have htt := hcd.tlt
      have hpc := peer_c b roles s r (hro r hcd.lt)
      rw [hcd.peer] at hpc
      rw [show doO b roles s m = (doS b roles s m, 0) by simp [doO, hM, hmem]]
      have hrole := hcd.role
      obtain ⟨kind, role, label⟩ := m
      simp only at hrole
      subst hrole
      have hbig := mayS_big hM
      obtain ⟨hx, hy⟩ := (hro r hcd.lt).idx
      have hall : r < s.at_.length := by omega
      rcases hcd.kind with ⟨hk, hnk, hlen⟩ | ⟨hk, hnk, rest, hq⟩
      · simp only at hk
        subst hk
        have hq1 : r * roles.length + t < s.mail.length := by
          rw [hn4]
          have := Nat.mul_le_mul_right roles.length (show r + 1 ≤ roles.length from hrt)
          rw [Nat.add_mul] at this; omega
        have hmq : s.mail[r * roles.length + t]? = some (mailAt s (r * roles.length + t)) := by simp [mailAt, hq1]
        have hdo : doS b roles s ⟨1, (r : Int), label⟩ = ⟨stepAt r label s.at_ (stNd b s r).arms, s.mail.set (r * roles.length + t) (mailAt s (r * roles.length + t) ++ [label])⟩ := by
          have hpe := hcd.peer
          simp [doS, moveQ, moveM, peerN, hpe]
        have hys : qrow (mailAt s (r * roles.length + t)) ++ [[.str label]] = qrow (mailAt s (r * roles.length + t) ++ [label]) := by simp
        refine con_of (c := _) Tryd.func21 rfl rfl rfl (by decide) fun w M0 H Z => ?_
        repeat' (first
         | (have hxl' : hs.length = s.mail.length := hxl; have hql : r * roles.length + t < hs.length := (by omega); have hvr : (vrow hs)[r * roles.length + t]? = some [.val hs[r * roles.length + t]] := (by simp [hql]); refine g_drawF (ι := Value) [11, 13] [93] doET (doMM b s ⟨1, (r : Int), label⟩ vA vM (vrow hs) (qpool hs s.mail) (r * roles.length + t) (qrow (mailAt s (r * roles.length + t)) ++ [[.str label]])) vA mix rfl (fun k x hk => by match k, hk with | 0, _ => (refine subG_spec ?_; repeat (first | exact trivial | refine ⟨rfl, ?_⟩)) | 1, _ => (refine subG_spec ?_; repeat (first | exact trivial | refine ⟨rfl, ?_⟩))) rfl (fun k x => by match k with | 0 => rfl | 1 => rfl | _ + 2 => rfl) rfl rfl (by simp) rfl rfl ?_; refine frun_ th rfl ?_)
         | refine gc_ rfl ?_
         | (refine g_region ?_; refine run_ th rfl ?_)
         | (refine g_drawC mix rfl rfl ?_; refine drun_ th rfl ?_)
         | (refine g_drawEC mix rfl rfl ?_; refine erun_ th rfl ?_)
         | refine SOps.nil ?_
         | refine DOps.nil ?_
         | refine EOps.nil ?_ rfl rfl
         | (refine s_split rfl rfl (fun hb => ?_) (fun hb => ?_) <;> (try simp only [hbL] at hb) <;> first | (exfalso; omega) | refine run_ th rfl ?_)
         | (refine d_split rfl rfl rfl (fun hb => ?_) (fun hb => ?_) <;> (try simp only [hbL] at hb) <;> first | (exfalso; omega) | refine drun_ th rfl ?_)
         | (refine g_if rfl (fun hb => ?_) (fun hb => ?_) <;> (try simp only [hbL] at hb) <;> (try (exfalso; omega)))
         | (refine s_call hmay [] rfl rfl rfl rfl rfl rfl rfl rfl rfl rfl ?_; refine run_ th rfl ?_)
         | (refine d_call hmov [] rfl rfl rfl rfl rfl rfl rfl rfl rfl rfl rfl ?_; refine drun_ th rfl ?_)
         | (refine d_call hcon [] rfl rfl rfl rfl rfl rfl rfl rfl rfl rfl rfl ?_; refine drun_ th rfl ?_)
         | (refine s_callO (copied_c s hbig) [91, 92, 93] rfl rfl rfl rfl rfl rfl rfl rfl rfl (fun _ => rfl) (fun x hxl => ?_); obtain ⟨vA, vM, hs⟩ := x; refine run_ th rfl ?_)
         | (refine s_call hpc [] rfl rfl rfl rfl rfl rfl rfl rfl rfl rfl ?_; refine run_ th rfl ?_)
         | (refine s_call (queue_c roles r t hn2 (by omega) (by omega)) [] rfl rfl rfl rfl rfl rfl rfl rfl rfl rfl ?_; refine run_ th rfl ?_)
         | (refine f_pidx (r := 92) th rfl rfl rfl rfl rfl rfl rfl rfl rfl rfl rfl 0 rfl (r * roles.length + t) rfl (by rw [List.length_map]; exact hql) ?_; refine frun_ th rfl ?_)
         | (refine f_pload (r := 92) th rfl rfl rfl rfl rfl rfl rfl rfl rfl 0 rfl hvr rfl ?_; refine frun_ th rfl ?_)
         | (refine f_lit th rfl rfl rfl rfl rfl rfl rfl rfl rfl rfl rfl rfl rfl (.refl _) ?_; refine frun_ th rfl ?_))

        refine FOps.nil ⟨Effs.cons rfl (fun x => ?_) (Effs.cons rfl (fun x => ?_) Effs.nil), fun v => ?_⟩
        · exact ef_append (i := 93) th rfl rfl rfl rfl rfl rfl rfl rfl rfl rfl rfl rfl rfl rfl rfl rfl (r * roles.length + t) (qpool_get (List.getElem?_eq_getElem hql) hmq) (by constructor <;> simp <;> omega) (fun v' => v') (fun _ => rfl) (fun _ => rfl)
        · exact ef_pstore (i := 92) th rfl rfl rfl rfl rfl rfl rfl rfl rfl rfl rfl rfl rfl rfl 0 rfl (by rw [List.length_map]; exact hql) rfl rfl
        rw [hys]
        refine g_freezeP 93 92 rfl rfl rfl rfl rfl rfl (by rw [qpool_set, qpool_fst (by simp [hxl']), vrow, vrow, List.map_set]) ?_
        have hR : ((qpool hs s.mail).set (r * roles.length + t) (v, qrow (mailAt s (r * roles.length + t) ++ [label]))).map (fun q => [CT.slice false 1 q.2]) = (s.mail.set (r * roles.length + t) (mailAt s (r * roles.length + t) ++ [label])).map fun m => [namesT m] := by
          rw [qpool_set, qpool_snd (by simp [hxl'])]
        generalize hRR : (s.mail.set (r * roles.length + t) (mailAt s (r * roles.length + t) ++ [label])).map (fun m => [namesT m]) = R at hR
        repeat' (first
         | refine gc_ rfl ?_
         | (refine g_region ?_; refine run_ th rfl ?_)
         | (refine g_drawC mix rfl rfl ?_; refine drun_ th rfl ?_)
         | (refine g_drawEC mix rfl rfl ?_; refine erun_ th rfl ?_)
         | refine SOps.nil ?_
         | refine DOps.nil ?_
         | refine EOps.nil ?_ rfl rfl
         | (refine s_split rfl rfl (fun hb => ?_) (fun hb => ?_) <;> (try simp only [hbL] at hb) <;> first | (exfalso; omega) | refine run_ th rfl ?_)
         | (refine d_split rfl rfl rfl (fun hb => ?_) (fun hb => ?_) <;> (try simp only [hbL] at hb) <;> first | (exfalso; omega) | refine drun_ th rfl ?_)
         | (refine g_if rfl (fun hb => ?_) (fun hb => ?_) <;> (try simp only [hbL] at hb) <;> (try (exfalso; omega)))
         | (refine d_idx th rfl rfl rfl rfl rfl rfl rfl rfl rfl r _ rfl hx ?_; refine drun_ th rfl ?_)
         | (refine d_idx th rfl rfl rfl rfl rfl rfl rfl rfl rfl (atN s r) _ rfl hy ?_; refine drun_ th rfl ?_))
        refine g_loop1 (fun j : Nat => j ≤ (stNd b s r).arms.length)
          (fun j => [(7, .v (.one (.ptr 7 0))), (8, .v (.one (.ptr 8 0))), (9, .v (C1 (.int .i64 0))), (10, .v (.one (.ptr 10 0))), (84, .v (C1 (armsT (stNd b s r).arms))), (85, .v (C1 (.int .i64 ((stNd b s r).arms.length : Int)))), (86, .v (C1 (.int .i64 (j : Int))))])
          (fun j => [(10, .box [.c (.val vA), .c (.val vM)]), (91, .pool 3 1 [(vA, irow (stepAt r label s.at_ ((stNd b s r).arms.take j)))]), (92, .pool 23 1 [(vM, R)]), (8, .box [.c .nils, .c .nils]), (7, .box [.c (.int .i64 1), .c (.int .i64 (r : Int)), .c (.str label)])])
          (fun j => (stNd b s r).arms.length - j) 0 (Nat.zero_le _)
          (fun a w h => h.sub (by exact ⟨⟨_, rfl, .refl _⟩, ⟨_, rfl, .refl _⟩, ⟨_, rfl, .refl _⟩, ⟨_, rfl, .refl _⟩, ⟨_, rfl, .refl _⟩, ⟨_, rfl, le_int (by simp)⟩, ⟨_, rfl, le_int rfl⟩, trivial⟩)
            (by exact ⟨⟨_, rfl, .refl _⟩, ⟨_, rfl, .refl _⟩, ⟨_, rfl, le_pool (by rw [hR])⟩, ⟨_, rfl, .refl _⟩, ⟨_, rfl, .refl _⟩, trivial⟩) rfl rfl rfl) (fun j hj ih => ?_)
        by_cases hjl : j < (stNd b s r).arms.length
        · have hxa : ((stNd b s r).arms.map Edge.cs)[j]? = some ((stNd b s r).arms[j]).cs := by simp [hjl]
          have hst := stepAt_succ (r := r) (label := label) hjl s.at_
          have hsl := stepAt_len r label ((stNd b s r).arms.take j) s.at_
          have hih := ih (j + 1) hjl (by omega)
          have hnd := stNd_few hA s r
          repeat' (first
           | refine gc_ rfl ?_
           | (refine g_region ?_; refine run_ th rfl ?_)
           | (refine g_drawC mix rfl rfl ?_; refine drun_ th rfl ?_)
           | (refine g_drawEC mix rfl rfl ?_; refine erun_ th rfl ?_)
           | refine SOps.nil ?_
           | refine DOps.nil ?_
           | refine EOps.nil ?_ rfl rfl
           | (refine s_split rfl rfl (fun hb => ?_) (fun hb => ?_) <;> (try simp only [hbL] at hb) <;> first | (exfalso; omega) | refine run_ th rfl ?_)
           | (refine d_split rfl rfl rfl (fun hb => ?_) (fun hb => ?_) <;> (try simp only [hbL] at hb) <;> first | (exfalso; omega) | refine drun_ th rfl ?_)
           | (refine g_if rfl (fun hb => ?_) (fun hb => ?_) <;> (try simp only [hbL] at hb) <;> (try (exfalso; omega)))
           | (refine s_idx th rfl rfl rfl rfl rfl rfl rfl rfl rfl j _ rfl hxa ?_; refine run_ th rfl ?_)
           | (refine s_pidx (r := 91) th rfl rfl rfl rfl rfl rfl rfl rfl rfl rfl 0 rfl r rfl (by simp [hsl]; omega) ?_; refine run_ th rfl ?_)
           | (refine s_pstore (r := 91) th rfl rfl rfl rfl rfl rfl rfl rfl rfl rfl rfl rfl rfl 0 rfl (by simp [hsl]; omega) ?_; refine run_ th rfl ?_)
           | (refine s_add rfl rfl rfl rfl rfl rfl (by omega) ?_; refine run_ th rfl ?_))
          · rw [if_pos (by simpa using hb)] at hst
            rw [hst] at hih
            exact g_sub (by exact ⟨⟨_, rfl, .refl _⟩, ⟨_, rfl, .refl _⟩, ⟨_, rfl, .refl _⟩, ⟨_, rfl, .refl _⟩, ⟨_, rfl, .refl _⟩, ⟨_, rfl, .refl _⟩, ⟨_, rfl, le_int (by omega)⟩, trivial⟩)
              (by exact ⟨⟨_, rfl, .refl _⟩, ⟨_, rfl, le_pool (by simp [irow, List.map_set])⟩, ⟨_, rfl, .refl _⟩, ⟨_, rfl, .refl _⟩, ⟨_, rfl, .refl _⟩, trivial⟩) rfl rfl rfl hih
          · rw [if_neg (by simpa using hb)] at hst
            rw [hst] at hih
            exact g_sub (by exact ⟨⟨_, rfl, .refl _⟩, ⟨_, rfl, .refl _⟩, ⟨_, rfl, .refl _⟩, ⟨_, rfl, .refl _⟩, ⟨_, rfl, .refl _⟩, ⟨_, rfl, .refl _⟩, ⟨_, rfl, le_int (by omega)⟩, trivial⟩)
              (by exact ⟨⟨_, rfl, .refl _⟩, ⟨_, rfl, .refl _⟩, ⟨_, rfl, .refl _⟩, ⟨_, rfl, .refl _⟩, ⟨_, rfl, .refl _⟩, trivial⟩) rfl rfl rfl hih
        · have hje : j = (stNd b s r).arms.length := by omega
          subst hje
          rw [List.take_length]
          refine g_freezeB 91 10 0 rfl rfl rfl rfl rfl rfl rfl ?_
          refine g_freezeB 92 10 1 rfl rfl rfl rfl rfl rfl rfl ?_
          rw [hdo]
          repeat' (first
           | refine gc_ rfl ?_
           | (refine g_region ?_; refine run_ th rfl ?_)
           | (refine g_drawC mix rfl rfl ?_; refine drun_ th rfl ?_)
           | (refine g_drawEC mix rfl rfl ?_; refine erun_ th rfl ?_)
           | refine SOps.nil ?_
           | refine DOps.nil ?_
           | refine EOps.nil ?_ rfl rfl
           | (refine s_split rfl rfl (fun hb => ?_) (fun hb => ?_) <;> (try simp only [hbL] at hb) <;> first | (exfalso; omega) | refine run_ th rfl ?_)
           | (refine d_split rfl rfl rfl (fun hb => ?_) (fun hb => ?_) <;> (try simp only [hbL] at hb) <;> first | (exfalso; omega) | refine drun_ th rfl ?_)
           | (refine g_if rfl (fun hb => ?_) (fun hb => ?_) <;> (try simp only [hbL] at hb) <;> (try (exfalso; omega))))
          refine g_endL th Tryd.func21 (.inr ⟨_, rfl⟩) rfl rfl rfl ?_ rfl
          rw [← hRR]
          exact .refl _
      · simp only at hk hq
        subst hk
        have hq1 : t * roles.length + r < s.mail.length := by
          rw [hn4]
          have := Nat.mul_le_mul_right roles.length (show t + 1 ≤ roles.length from htt)
          rw [Nat.add_mul] at this; omega
        have hmq : (s.mail.map fun m => [namesT m])[t * roles.length + r]? = some [namesT (label :: rest)] := by
          rw [← hq]; simp [mailAt, hq1]
        have hdo : doS b roles s ⟨2, (r : Int), label⟩ = ⟨stepAt r label s.at_ (stNd b s r).arms, s.mail.set (t * roles.length + r) rest⟩ := by
          have hpe := hcd.peer
          simp [doS, moveQ, moveM, peerN, hpe, hq]
        refine con_of (c := _) Tryd.func21 rfl rfl rfl (by decide) fun w M0 H Z => ?_
        repeat' (first
         | (have hxl' : hs.length = s.mail.length := hxl; have hql : t * roles.length + r < s.mail.length := hq1; refine g_freezeP 93 92 rfl rfl rfl rfl rfl rfl (qpool_fst hxl').symm ?_; rw [qpool_snd hxl']; refine g_drawF (ι := Unit) [10] [] rcET (rcMM b s ⟨2, (r : Int), label⟩ vA vM (s.mail.map fun m => [namesT m]) (t * roles.length + r) ((qrow (label :: rest)).drop 1)) () mix rfl (fun k x hk => by match k, hk with | 0, _ => (refine subG_spec ?_; repeat (first | exact trivial | refine ⟨rfl, ?_⟩))) rfl (fun k x => rfl) rfl rfl (by simp) rfl rfl ?_; refine frun_ th rfl ?_)
         | refine gc_ rfl ?_
         | (refine g_region ?_; refine run_ th rfl ?_)
         | (refine g_drawC mix rfl rfl ?_; refine drun_ th rfl ?_)
         | (refine g_drawEC mix rfl rfl ?_; refine erun_ th rfl ?_)
         | refine SOps.nil ?_
         | refine DOps.nil ?_
         | refine EOps.nil ?_ rfl rfl
         | (refine s_split rfl rfl (fun hb => ?_) (fun hb => ?_) <;> (try simp only [hbL] at hb) <;> first | (exfalso; omega) | refine run_ th rfl ?_)
         | (refine d_split rfl rfl rfl (fun hb => ?_) (fun hb => ?_) <;> (try simp only [hbL] at hb) <;> first | (exfalso; omega) | refine drun_ th rfl ?_)
         | (refine g_if rfl (fun hb => ?_) (fun hb => ?_) <;> (try simp only [hbL] at hb) <;> (try (exfalso; omega)))
         | (refine s_call hmay [] rfl rfl rfl rfl rfl rfl rfl rfl rfl rfl ?_; refine run_ th rfl ?_)
         | (refine d_call hmov [] rfl rfl rfl rfl rfl rfl rfl rfl rfl rfl rfl ?_; refine drun_ th rfl ?_)
         | (refine d_call hcon [] rfl rfl rfl rfl rfl rfl rfl rfl rfl rfl rfl ?_; refine drun_ th rfl ?_)
         | (refine s_callO (copied_c s hbig) [91, 92, 93] rfl rfl rfl rfl rfl rfl rfl rfl rfl (fun _ => rfl) (fun x hxl => ?_); obtain ⟨vA, vM, hs⟩ := x; refine run_ th rfl ?_)
         | (refine s_call hpc [] rfl rfl rfl rfl rfl rfl rfl rfl rfl rfl ?_; refine run_ th rfl ?_)
         | (refine s_call (queue_c roles t r hn2 (by omega) (by omega)) [] rfl rfl rfl rfl rfl rfl rfl rfl rfl rfl ?_; refine run_ th rfl ?_)
         | (refine f_pidx (r := 92) th rfl rfl rfl rfl rfl rfl rfl rfl rfl rfl rfl 0 rfl (t * roles.length + r) rfl (by rw [List.length_map]; exact hql) ?_; refine frun_ th rfl ?_)
         | (refine f_pload (r := 92) th rfl rfl rfl rfl rfl rfl rfl rfl rfl 0 rfl hmq rfl ?_; refine frun_ th rfl ?_)
         | (refine f_step (fun mm' => op_sliceFrom (j := 1) th rfl rfl rfl rfl rfl rfl rfl (by simp) rfl rfl) rfl rfl rfl ?_; refine frun_ th rfl ?_))
        refine FOps.nil ⟨Effs.cons rfl (fun x => ?_) Effs.nil, fun v => ?_⟩
        · exact ef_pstore (i := 92) th rfl rfl rfl rfl rfl rfl rfl rfl rfl rfl rfl rfl rfl rfl 0 rfl (by rw [List.length_map]; exact hql) rfl rfl
        have hR : (s.mail.map fun m => [namesT m]).set (t * roles.length + r) [.slice false 1 ((qrow (label :: rest)).drop 1)] = (s.mail.set (t * roles.length + r) rest).map fun m => [namesT m] := by
          rw [List.map_set]; rfl
        generalize hRR : (s.mail.set (t * roles.length + r) rest).map (fun m => [namesT m]) = R at hR
        repeat' (first
         | refine gc_ rfl ?_
         | (refine g_region ?_; refine run_ th rfl ?_)
         | (refine g_drawC mix rfl rfl ?_; refine drun_ th rfl ?_)
         | (refine g_drawEC mix rfl rfl ?_; refine erun_ th rfl ?_)
         | refine SOps.nil ?_
         | refine DOps.nil ?_
         | refine EOps.nil ?_ rfl rfl
         | (refine s_split rfl rfl (fun hb => ?_) (fun hb => ?_) <;> (try simp only [hbL] at hb) <;> first | (exfalso; omega) | refine run_ th rfl ?_)
         | (refine d_split rfl rfl rfl (fun hb => ?_) (fun hb => ?_) <;> (try simp only [hbL] at hb) <;> first | (exfalso; omega) | refine drun_ th rfl ?_)
         | (refine g_if rfl (fun hb => ?_) (fun hb => ?_) <;> (try simp only [hbL] at hb) <;> (try (exfalso; omega)))
         | (refine d_idx th rfl rfl rfl rfl rfl rfl rfl rfl rfl r _ rfl hx ?_; refine drun_ th rfl ?_)
         | (refine d_idx th rfl rfl rfl rfl rfl rfl rfl rfl rfl (atN s r) _ rfl hy ?_; refine drun_ th rfl ?_))
        refine g_loop1 (fun j : Nat => j ≤ (stNd b s r).arms.length)
          (fun j => [(7, .v (.one (.ptr 7 0))), (8, .v (.one (.ptr 8 0))), (9, .v (C1 (.int .i64 0))), (10, .v (.one (.ptr 10 0))), (84, .v (C1 (armsT (stNd b s r).arms))), (85, .v (C1 (.int .i64 ((stNd b s r).arms.length : Int)))), (86, .v (C1 (.int .i64 (j : Int))))])
          (fun j => [(10, .box [.c (.val vA), .c (.val vM)]), (91, .pool 3 1 [(vA, irow (stepAt r label s.at_ ((stNd b s r).arms.take j)))]), (92, .pool 23 1 [(vM, R)]), (8, .box [.c .nils, .c .nils]), (7, .box [.c (.int .i64 2), .c (.int .i64 (r : Int)), .c (.str label)])])
          (fun j => (stNd b s r).arms.length - j) 0 (Nat.zero_le _)
          (fun a w h => h.sub (by exact ⟨⟨_, rfl, .refl _⟩, ⟨_, rfl, .refl _⟩, ⟨_, rfl, .refl _⟩, ⟨_, rfl, .refl _⟩, ⟨_, rfl, .refl _⟩, ⟨_, rfl, le_int (by simp)⟩, ⟨_, rfl, le_int rfl⟩, trivial⟩)
            (by exact ⟨⟨_, rfl, .refl _⟩, ⟨_, rfl, .refl _⟩, ⟨_, rfl, le_pool (by rw [hR])⟩, ⟨_, rfl, .refl _⟩, ⟨_, rfl, .refl _⟩, trivial⟩) rfl rfl rfl) (fun j hj ih => ?_)
        by_cases hjl : j < (stNd b s r).arms.length
        · have hxa : ((stNd b s r).arms.map Edge.cs)[j]? = some ((stNd b s r).arms[j]).cs := by simp [hjl]
          have hst := stepAt_succ (r := r) (label := label) hjl s.at_
          have hsl := stepAt_len r label ((stNd b s r).arms.take j) s.at_
          have hih := ih (j + 1) hjl (by omega)
          have hnd := stNd_few hA s r
          repeat' (first
           | refine gc_ rfl ?_
           | (refine g_region ?_; refine run_ th rfl ?_)
           | (refine g_drawC mix rfl rfl ?_; refine drun_ th rfl ?_)
           | (refine g_drawEC mix rfl rfl ?_; refine erun_ th rfl ?_)
           | refine SOps.nil ?_
           | refine DOps.nil ?_
           | refine EOps.nil ?_ rfl rfl
           | (refine s_split rfl rfl (fun hb => ?_) (fun hb => ?_) <;> (try simp only [hbL] at hb) <;> first | (exfalso; omega) | refine run_ th rfl ?_)
           | (refine d_split rfl rfl rfl (fun hb => ?_) (fun hb => ?_) <;> (try simp only [hbL] at hb) <;> first | (exfalso; omega) | refine drun_ th rfl ?_)
           | (refine g_if rfl (fun hb => ?_) (fun hb => ?_) <;> (try simp only [hbL] at hb) <;> (try (exfalso; omega)))
           | (refine s_idx th rfl rfl rfl rfl rfl rfl rfl rfl rfl j _ rfl hxa ?_; refine run_ th rfl ?_)
           | (refine s_pidx (r := 91) th rfl rfl rfl rfl rfl rfl rfl rfl rfl rfl 0 rfl r rfl (by simp [hsl]; omega) ?_; refine run_ th rfl ?_)
           | (refine s_pstore (r := 91) th rfl rfl rfl rfl rfl rfl rfl rfl rfl rfl rfl rfl rfl 0 rfl (by simp [hsl]; omega) ?_; refine run_ th rfl ?_)
           | (refine s_add rfl rfl rfl rfl rfl rfl (by omega) ?_; refine run_ th rfl ?_))
          · rw [if_pos (by simpa using hb)] at hst
            rw [hst] at hih
            exact g_sub (by exact ⟨⟨_, rfl, .refl _⟩, ⟨_, rfl, .refl _⟩, ⟨_, rfl, .refl _⟩, ⟨_, rfl, .refl _⟩, ⟨_, rfl, .refl _⟩, ⟨_, rfl, .refl _⟩, ⟨_, rfl, le_int (by omega)⟩, trivial⟩)
              (by exact ⟨⟨_, rfl, .refl _⟩, ⟨_, rfl, le_pool (by simp [irow, List.map_set])⟩, ⟨_, rfl, .refl _⟩, ⟨_, rfl, .refl _⟩, ⟨_, rfl, .refl _⟩, trivial⟩) rfl rfl rfl hih
          · rw [if_neg (by simpa using hb)] at hst
            rw [hst] at hih
            exact g_sub (by exact ⟨⟨_, rfl, .refl _⟩, ⟨_, rfl, .refl _⟩, ⟨_, rfl, .refl _⟩, ⟨_, rfl, .refl _⟩, ⟨_, rfl, .refl _⟩, ⟨_, rfl, .refl _⟩, ⟨_, rfl, le_int (by omega)⟩, trivial⟩)
              (by exact ⟨⟨_, rfl, .refl _⟩, ⟨_, rfl, .refl _⟩, ⟨_, rfl, .refl _⟩, ⟨_, rfl, .refl _⟩, ⟨_, rfl, .refl _⟩, trivial⟩) rfl rfl rfl hih
        · have hje : j = (stNd b s r).arms.length := by omega
          subst hje
          rw [List.take_length]
          refine g_freezeB 91 10 0 rfl rfl rfl rfl rfl rfl rfl ?_
          refine g_freezeB 92 10 1 rfl rfl rfl rfl rfl rfl rfl ?_
          rw [hdo]
          repeat' (first
           | refine gc_ rfl ?_
           | (refine g_region ?_; refine run_ th rfl ?_)
           | (refine g_drawC mix rfl rfl ?_; refine drun_ th rfl ?_)
           | (refine g_drawEC mix rfl rfl ?_; refine erun_ th rfl ?_)
           | refine SOps.nil ?_
           | refine DOps.nil ?_
           | refine EOps.nil ?_ rfl rfl
           | (refine s_split rfl rfl (fun hb => ?_) (fun hb => ?_) <;> (try simp only [hbL] at hb) <;> first | (exfalso; omega) | refine run_ th rfl ?_)
           | (refine d_split rfl rfl rfl (fun hb => ?_) (fun hb => ?_) <;> (try simp only [hbL] at hb) <;> first | (exfalso; omega) | refine drun_ th rfl ?_)
           | (refine g_if rfl (fun hb => ?_) (fun hb => ?_) <;> (try simp only [hbL] at hb) <;> (try (exfalso; omega))))
          refine g_endL th Tryd.func21 (.inr ⟨_, rfl⟩) rfl rfl rfl ?_ rfl
          rw [← hRR]
          exact .refl _
    · rw [show decide (m ∈ movesS b roles s) = false by simpa using hmem] at hcon
      rw [show doO b roles s m = (⟨[], []⟩, 1301) by simp [doO, hM, hmem]]
      refine con_of (c := _) Tryd.func21 rfl rfl rfl (by decide) fun w M0 H Z => ?_
      repeat' (first
       | refine gc_ rfl ?_
       | (refine g_region ?_; refine run_ th rfl ?_)
       | (refine g_drawC mix rfl rfl ?_; refine drun_ th rfl ?_)
       | (refine g_drawEC mix rfl rfl ?_; refine erun_ th rfl ?_)
       | refine SOps.nil ?_
       | refine DOps.nil ?_
       | refine EOps.nil ?_ rfl rfl
       | (refine s_split rfl rfl (fun hb => ?_) (fun hb => ?_) <;> (try simp only [hbL] at hb) <;> first | (exfalso; omega) | refine run_ th rfl ?_)
       | (refine d_split rfl rfl rfl (fun hb => ?_) (fun hb => ?_) <;> (try simp only [hbL] at hb) <;> first | (exfalso; omega) | refine drun_ th rfl ?_)
       | (refine g_if rfl (fun hb => ?_) (fun hb => ?_) <;> (try simp only [hbL] at hb) <;> (try (exfalso; omega)))
       | refine g_endL th Tryd.func21 (.inr ⟨_, rfl⟩) rfl rfl rfl ?_ rfl
       | (refine s_call hmay [] rfl rfl rfl rfl rfl rfl rfl rfl rfl rfl ?_; refine run_ th rfl ?_)
       | (refine d_call hmov [] rfl rfl rfl rfl rfl rfl rfl rfl rfl rfl rfl ?_; refine drun_ th rfl ?_)
       | (refine d_call hcon [] rfl rfl rfl rfl rfl rfl rfl rfl rfl rfl rfl ?_; refine drun_ th rfl ?_))
      all_goals first | exact .tup (.cons (.agg (.cons (.c (.nil 1)) (.cons (.c (.nil 1)) .nil))) (.cons (.refl _) .nil)) | (exfalso; revert hb; decide)
end Go.Sy

/- Contracts of layer 13: stage.Begin, slices.EqualFunc, stage.Same. -/
namespace Go.Sy
open Go.Proofs
set_option maxRecDepth 100000
attribute [local irreducible] SOps Goes DOps EOps

theorem book_few {b : Bk} (h : bookB b = true) : ArmsFew b := by
  intro x hx
  simp only [bookB, Bool.and_eq_true, List.all_eq_true] at h
  have h1 := h.2.2.2 x hx
  unfold nodeB at h1
  split at h1
  · simp only [Bool.and_eq_true, decide_eq_true_eq] at h1; omega
  · simp only [Bool.and_eq_true, decide_eq_true_eq] at h1; omega

def stg0 (n : Nat) (roots : List Int) : Stg := ⟨roots, List.replicate (n * n) []⟩
/-- The stage at the beginning (P13.1). -/
def beginO (b : Bk) (roles : List ByteArray) (roots : List Int) : Stg × Int :=
  if 5 < roles.length then (⟨[], []⟩, 1300) else if mayS b roles (stg0 roles.length roots) = true then (stg0 roles.length roots, 0) else (⟨[], []⟩, 1300)

set_option maxHeartbeats 4000000 in
theorem begin_c (b : Bk) (roles : List ByteArray) (roots : List Int) (hbig : roots.length * 8 ≤ 140737488355328) : Con Tryd.prog 20 [] [Ag b.cs, C1 (namesT roles), C1 (intsT roots)] (stgR (beginO b roles roots)) [] := by
  by_cases h5 : 5 < roles.length
  · rw [show beginO b roles roots = (⟨[], []⟩, 1300) by simp [beginO, h5]]
    refine con_of (c := _) Tryd.func20 rfl rfl rfl (by decide) fun w M0 H Z => ?_
    repeat' (first
     | refine gc_ rfl ?_
     | (refine g_region ?_; refine run_ th rfl ?_)
     | (refine g_drawC mix rfl rfl ?_; refine drun_ th rfl ?_)
     | (refine g_drawEC mix rfl rfl ?_; refine erun_ th rfl ?_)
     | refine SOps.nil ?_
     | refine DOps.nil ?_
     | refine EOps.nil ?_ rfl rfl
     | (refine s_split rfl rfl (fun hb => ?_) (fun hb => ?_) <;> (try simp only [hbL] at hb) <;> first | (exfalso; omega) | refine run_ th rfl ?_)
     | (refine d_split rfl rfl rfl (fun hb => ?_) (fun hb => ?_) <;> (try simp only [hbL] at hb) <;> first | (exfalso; omega) | refine drun_ th rfl ?_)
     | (refine g_if rfl (fun hb => ?_) (fun hb => ?_) <;> (try simp only [hbL] at hb) <;> (try (exfalso; omega)))
     | refine g_endL th Tryd.func20 (.inr ⟨_, rfl⟩) rfl rfl rfl ?_ rfl)
    all_goals exact .tup (.cons (.agg (.cons (.c (.nil 1)) (.cons (.c (.nil 1)) .nil))) (.cons (.refl _) .nil))
  · have hmay := stagemay_c b roles (stg0 roles.length roots)
    have hn5 : roles.length ≤ 5 := by omega
    have hmn := mulB roles.length hn5
    have hnn : (((roles.length * roles.length : Nat)) : Int) = (roles.length : Int) * roles.length := by simp
    have hml : roles.length * roles.length ≤ 5 * 5 := Nat.mul_le_mul hn5 hn5
    have hle1 : LeC (.slice true 1 (List.replicate (roles.length * roles.length) [.nils])) (.slice true 1 (List.replicate (roles.length * roles.length) [namesT []])) := by
      generalize roles.length * roles.length = q
      refine le_deep ?_
      induction q with
      | zero => exact .nil
      | succ q ih => exact .cons (.cons (.nil 1) .nil) ih
    have hle2 : LeC (.slice true 1 (List.replicate (roles.length * roles.length) [namesT []])) (mailT (stg0 roles.length roots).mail) := by
      show LeC _ (CT.slice false 1 (List.map _ (List.replicate _ _)))
      rw [List.map_replicate]
      exact .nn true 1 _
    cases hM : mayS b roles (stg0 roles.length roots) with
    | true =>
      rw [hM] at hmay
      rw [show beginO b roles roots = (stg0 roles.length roots, 0) by simp [beginO, h5, hM]]
      refine con_of (c := _) Tryd.func20 rfl rfl rfl (by decide) fun w M0 H Z => ?_
      repeat' (first
       | (refine Goes.mono ?_ (fun _ _ h => Has.leB (i := 8) (j := 1) rfl rfl hle2 h))
       | refine gc_ rfl ?_
       | (refine g_region ?_; refine run_ th rfl ?_)
       | (refine g_drawC mix rfl rfl ?_; refine drun_ th rfl ?_)
       | (refine g_drawEC mix rfl rfl ?_; refine erun_ th rfl ?_)
       | refine SOps.nil ?_
       | refine DOps.nil ?_
       | refine EOps.nil ?_ rfl rfl
       | (refine s_split rfl rfl (fun hb => ?_) (fun hb => ?_) <;> (try simp only [hbL] at hb) <;> first | (exfalso; omega) | refine run_ th rfl ?_)
       | (refine d_split rfl rfl rfl (fun hb => ?_) (fun hb => ?_) <;> (try simp only [hbL] at hb) <;> first | (exfalso; omega) | refine drun_ th rfl ?_)
       | (refine g_if rfl (fun hb => ?_) (fun hb => ?_) <;> (try simp only [hbL] at hb) <;> (try (exfalso; omega)))
       | refine g_endL th Tryd.func20 (.inr ⟨_, rfl⟩) rfl rfl rfl ?_ rfl
       | (refine e_call (cloneI_c roots hbig) rfl rfl rfl rfl rfl rfl rfl ?_; refine erun_ th rfl ?_)
       | (refine e_step (fun mm' => op_arith (p := .mul) rfl rfl rfl (IntWalk.i64_in _ (by simp only [List.length_map]; omega)) rfl rfl) rfl rfl ?_; refine erun_ th rfl ?_)
       | (refine e_make th rfl rfl rfl rfl rfl rfl rfl rfl rfl rfl (roles.length * roles.length) (by simp) (by simp) ⟨by omega, by show 24 * (roles.length * roles.length) ≤ 281474976710656; omega⟩ hle1 ?_; refine erun_ th rfl ?_)
       | (refine s_call hmay [] rfl rfl rfl rfl rfl rfl rfl rfl rfl rfl ?_; refine run_ th rfl ?_))
      all_goals first | exact .refl _ | (exfalso; revert hb; decide)
    | false =>
      rw [hM] at hmay
      rw [show beginO b roles roots = (⟨[], []⟩, 1300) by simp [beginO, hM]]
      refine con_of (c := _) Tryd.func20 rfl rfl rfl (by decide) fun w M0 H Z => ?_
      repeat' (first
       | (refine Goes.mono ?_ (fun _ _ h => Has.leB (i := 8) (j := 1) rfl rfl hle2 h))
       | refine gc_ rfl ?_
       | (refine g_region ?_; refine run_ th rfl ?_)
       | (refine g_drawC mix rfl rfl ?_; refine drun_ th rfl ?_)
       | (refine g_drawEC mix rfl rfl ?_; refine erun_ th rfl ?_)
       | refine SOps.nil ?_
       | refine DOps.nil ?_
       | refine EOps.nil ?_ rfl rfl
       | (refine s_split rfl rfl (fun hb => ?_) (fun hb => ?_) <;> (try simp only [hbL] at hb) <;> first | (exfalso; omega) | refine run_ th rfl ?_)
       | (refine d_split rfl rfl rfl (fun hb => ?_) (fun hb => ?_) <;> (try simp only [hbL] at hb) <;> first | (exfalso; omega) | refine drun_ th rfl ?_)
       | (refine g_if rfl (fun hb => ?_) (fun hb => ?_) <;> (try simp only [hbL] at hb) <;> (try (exfalso; omega)))
       | refine g_endL th Tryd.func20 (.inr ⟨_, rfl⟩) rfl rfl rfl ?_ rfl
       | (refine e_call (cloneI_c roots hbig) rfl rfl rfl rfl rfl rfl rfl ?_; refine erun_ th rfl ?_)
       | (refine e_step (fun mm' => op_arith (p := .mul) rfl rfl rfl (IntWalk.i64_in _ (by simp only [List.length_map]; omega)) rfl rfl) rfl rfl ?_; refine erun_ th rfl ?_)
       | (refine e_make th rfl rfl rfl rfl rfl rfl rfl rfl rfl rfl (roles.length * roles.length) (by simp) (by simp) ⟨by omega, by show 24 * (roles.length * roles.length) ≤ 281474976710656; omega⟩ hle1 ?_; refine erun_ th rfl ?_)
       | (refine s_call hmay [] rfl rfl rfl rfl rfl rfl rfl rfl rfl rfl ?_; refine run_ th rfl ?_))
      all_goals first | exact .tup (.cons (.agg (.cons (.c (.nil 1)) (.cons (.c (.nil 1)) .nil))) (.cons (.refl _) .nil)) | (exfalso; revert hb; decide)

/-- Two stages are equal (P13.3). -/
def sameS (x y : Stg) : Bool := decide (x.at_ = y.at_) && decide (x.mail = y.mail)
end Go.Sy

/- Plain law of the stage's moves: a move leads to a valid stage; two moves of two roles commute. -/
namespace Go.Sy

def setO (l : List Int) (r : Nat) : Option Int → List Int
  | none => l
  | some v => l.set r v
theorem setO_get (l : List Int) {r q : Nat} (h : q ≠ r) (o : Option Int) : (setO l r o)[q]? = l[q]? := by
  cases o with
  | none => rfl
  | some v => simp [setO, List.getElem?_set_ne (Ne.symm h)]
theorem stepAt_set (r : Nat) (label : ByteArray) : ∀ arms : List Edge, ∃ o : Option Int, (∀ at_, stepAt r label at_ arms = setO at_ r o) ∧ ∀ v, o = some v → ∃ a ∈ arms, a.next = v
  | [] => ⟨none, fun _ => rfl, fun v h => by cases h⟩
  | a :: l => by
    obtain ⟨o, h1, h2⟩ := stepAt_set r label l
    have hs : ∀ at_, stepAt r label at_ (a :: l) = stepAt r label (if a.label = label then at_.set r a.next else at_) l := fun _ => rfl
    by_cases ha : a.label = label
    · cases o with
      | none =>
        refine ⟨some a.next, fun at_ => by rw [hs, h1, if_pos ha]; rfl, fun v hv => ⟨a, List.mem_cons_self, by injection hv⟩⟩
      | some v =>
        refine ⟨some v, fun at_ => by rw [hs, h1, if_pos ha]; simp [setO], fun v' hv => ?_⟩
        obtain ⟨x, hx, e⟩ := h2 v' hv
        exact ⟨x, List.mem_cons_of_mem _ hx, e⟩
    · refine ⟨o, fun at_ => by rw [hs, h1, if_neg ha], fun v hv => ?_⟩
      obtain ⟨x, hx, e⟩ := h2 v hv
      exact ⟨x, List.mem_cons_of_mem _ hx, e⟩

theorem book_next {b : Bk} (h : bookB b = true) {x : Nd} (hx : x ∈ b.nodes) : ∀ a ∈ x.arms, 0 ≤ a.next ∧ a.next < (b.nodes.length : Int) := by
  have hn : nodeB b.nodes.length x = true := by
    simp only [bookB, Bool.and_eq_true, List.all_eq_true] at h
    exact h.2.2.2 x hx
  intro a ha
  unfold nodeB at hn
  split at hn
  · simp only [Bool.and_eq_true, decide_eq_true_eq] at hn
    have : x.arms = [] := List.eq_nil_of_length_eq_zero hn.2
    rw [this] at ha; cases ha
  · simp only [Bool.and_eq_true] at hn
    have h5 := hn.2.2.2.2
    unfold armsB at h5
    rw [List.all_eq_true] at h5
    obtain ⟨i, hi, rfl⟩ := List.mem_iff_getElem.1 ha
    have := h5 i (List.mem_range.2 hi)
    unfold okAt at this
    rw [List.getElem?_eq_getElem hi] at this
    simp only [Bool.and_eq_true, decide_eq_true_eq] at this
    exact ⟨this.2.2.1, this.2.2.2.1⟩

section
variable {b : Bk} {roles : List ByteArray} {s : Stg}
theorem mayS_book (h : mayS b roles s = true) : bookB b = true := by
  simp only [mayS, Bool.and_eq_true] at h; exact h.1
theorem mayS_once (h : mayS b roles s = true) : onceB roles = true := by
  simp only [mayS, Bool.and_eq_true] at h; exact h.2.2.2.1
theorem mayS_of (hb : bookB b = true) (h1 : 1 ≤ roles.length) (h5 : roles.length ≤ 5) (ho : onceB roles = true) (ha : s.at_.length = roles.length) (hm : s.mail.length = roles.length * roles.length)
    (hr : ∀ v ∈ s.at_, 0 ≤ v ∧ v < (b.nodes.length : Int)) (hl : ∀ m ∈ s.mail, m.length ≤ 64) : mayS b roles s = true := by
  simp only [mayS, Bool.and_eq_true, decide_eq_true_eq, List.all_eq_true]
  refine ⟨hb, h1, h5, ho, ha, hm, fun v hv => by simpa [atB] using hr v hv, ?_⟩
  simp only [Bool.not_eq_true', List.any_eq_false]
  intro m hmm
  have := hl m hmm
  simp [longB]; omega
theorem stNd_mem {r : Nat} (h : RoleOk b s r) : stNd b s r ∈ b.nodes := by
  have h1 := h.lt
  have e : atN s r = (s.at_[r]).toNat := by simp [atN, h1]
  have hl : (s.at_[r]).toNat < b.nodes.length := by have := h.ge; have := h.le; omega
  simp [stNd, e, hl]
theorem CanDo.mem {m : Mv} {r t : Nat} (h : CanDo b roles s m r t) : m ∈ movesAt b roles s r := by
  have h0 : ¬ ((t : Int) < 0) := by omega
  obtain ⟨kind, role, label⟩ := m
  have hrole := h.role
  simp only at hrole
  subst hrole
  obtain ⟨a, ha, hal⟩ := h.arm
  simp only at hal
  rcases h.kind with ⟨hk, hn, hl⟩ | ⟨hk, hn, rest, hq⟩
  · simp only at hk; subst hk
    simp only [movesAt, h.peer, h0, if_false, Int.toNat_natCast]
    rw [if_pos ⟨hn, hl⟩]
    exact List.mem_map.2 ⟨a, ha, by rw [hal]⟩
  · simp only at hk hq; subst hk
    have hn1 : ¬ ((stNd b s r).kind = 1 ∧ (mailAt s (r * roles.length + t)).length < 64) := fun e => by rw [hn] at e; simp at e
    simp only [movesAt, h.peer, h0, if_false, Int.toNat_natCast]
    rw [if_neg hn1, if_pos hn, hq]
    simp only
    rw [if_pos (List.any_eq_true.2 ⟨a, ha, by simpa using hal⟩)]
    exact List.mem_singleton.2 rfl
/-- The queue that a move changes; what it holds then. -/
theorem CanDo.queue {m : Mv} {r t : Nat} (h : CanDo b roles s m r t) : (m.kind = 1 ∧ moveQ b roles s m = r * roles.length + t) ∨ (m.kind = 2 ∧ moveQ b roles s m = t * roles.length + r) := by
  have hr : m.role.toNat = r := by rw [h.role]; simp
  have hp : peerN b roles s r = t := by rw [peerN, h.peer]; simp
  rcases h.kind with ⟨hk, _⟩ | ⟨hk, _⟩
  · exact .inl ⟨hk, by simp [moveQ, hk, hr, hp]⟩
  · exact .inr ⟨hk, by simp [moveQ, hk, hr, hp]⟩
theorem CanDo.qlt {m : Mv} {r t : Nat} (h : CanDo b roles s m r t) : moveQ b roles s m < roles.length * roles.length := by
  have key : ∀ x y, x < roles.length → y < roles.length → x * roles.length + y < roles.length * roles.length := fun x y hx hy => by
    have := Nat.mul_le_mul_right roles.length (show x + 1 ≤ roles.length from hx)
    rw [Nat.add_mul] at this; omega
  rcases h.queue with ⟨_, e⟩ | ⟨_, e⟩ <;> rw [e]
  · exact key _ _ h.lt h.tlt
  · exact key _ _ h.tlt h.lt
theorem CanDo.moveM {m : Mv} {r t : Nat} (h : CanDo b roles s m r t) : (m.kind = 1 ∧ (mailAt s (moveQ b roles s m)).length < 64 ∧ moveM b roles s m = mailAt s (moveQ b roles s m) ++ [m.label]) ∨
    (m.kind = 2 ∧ ∃ rest, mailAt s (moveQ b roles s m) = m.label :: rest ∧ moveM b roles s m = rest) := by
  rcases h.kind with ⟨hk, hn, hl⟩ | ⟨hk, hn, rest, hq⟩
  · rcases h.queue with ⟨_, e⟩ | ⟨h2, _⟩
    · exact .inl ⟨hk, by rw [e]; exact hl, by simp [Sy.moveM, hk]⟩
    · omega
  · rcases h.queue with ⟨h2, _⟩ | ⟨_, e⟩
    · omega
    · refine .inr ⟨hk, rest, by rw [e]; exact hq, ?_⟩
      have : ¬ (m.kind = 1) := by omega
      rw [Sy.moveM, if_neg this, e, hq]; rfl
theorem do_at {m : Mv} {r t : Nat} (h : CanDo b roles s m r t) : (doS b roles s m).at_ = stepAt r m.label s.at_ (stNd b s r).arms := by
  have hr : m.role.toNat = r := by rw [h.role]; simp
  simp [doS, hr]
theorem mailAt_set {l : List (List ByteArray)} {a : List Int} {q : Nat} (hq : q < l.length) (m : List ByteArray) (i : Nat) : mailAt ⟨a, l.set q m⟩ i = if i = q then m else mailAt ⟨a, l⟩ i := by
  unfold mailAt
  by_cases h : i = q
  · subst h; simp [hq]
  · rw [if_neg h]
    simp only
    rw [List.getElem?_set_ne (Ne.symm h)]

/-- A move leads to a valid stage. -/
theorem may_do {m : Mv} (h : m ∈ movesS b roles s) : mayS b roles (doS b roles s m) = true := by
  obtain ⟨hM, r, t, hc⟩ := mem_moves h
  obtain ⟨h1, h5, h3, h4, hro⟩ := mayS_at hM
  have hb := mayS_book hM
  obtain ⟨o, ho, hv⟩ := stepAt_set r m.label (stNd b s r).arms
  have hat := do_at hc
  refine mayS_of hb h1 h5 (mayS_once hM) (by rw [hat, stepAt_len]; exact h3) (by simp [doS, h4]) (fun v hvm => ?_) (fun q hq => ?_)
  · rw [hat, ho] at hvm
    have hold : ∀ v ∈ s.at_, 0 ≤ v ∧ v < (b.nodes.length : Int) := fun v hv => by
      obtain ⟨i, hi, rfl⟩ := List.mem_iff_getElem.1 hv
      have := hro i (by omega)
      exact ⟨this.ge, this.le⟩
    cases o with
    | none => exact hold v hvm
    | some u =>
      rcases List.mem_or_eq_of_mem_set hvm with hvm | rfl
      · exact hold v hvm
      · obtain ⟨a, ha, e⟩ := hv _ rfl
        rw [← e]
        exact book_next hb (stNd_mem (hro r hc.lt)) a ha
  · have hq : q ∈ s.mail.set (moveQ b roles s m) (moveM b roles s m) := hq
    rcases List.mem_or_eq_of_mem_set hq with hq | rfl
    · exact mayS_long hM q hq
    · rcases hc.moveM with ⟨_, hl, e⟩ | ⟨_, rest, e1, e2⟩
      · rw [e]; simp; omega
      · rw [e2]
        have hm : mailAt s (moveQ b roles s m) ∈ s.mail := by
          have := hc.qlt
          have hl : moveQ b roles s m < s.mail.length := by omega
          simp [mailAt, hl]
        have := mayS_long hM _ hm
        rw [e1] at this
        simp at this; omega

theorem idx_inj {n a b c d : Nat} (hb : b < n) (hd : d < n) (h : a * n + b = c * n + d) : a = c ∧ b = d := by
  have hn : 0 < n := by omega
  have h1 : (a * n + b) / n = a := by rw [Nat.add_comm, Nat.add_mul_div_right _ _ hn, Nat.div_eq_of_lt hb]; omega
  have h2 : (c * n + d) / n = c := by rw [Nat.add_comm, Nat.add_mul_div_right _ _ hn, Nat.div_eq_of_lt hd]; omega
  have hac : a = c := by rw [← h1, h, h2]
  subst hac
  exact ⟨rfl, by omega⟩

/-- After a move of another role a move stays possible. -/
theorem CanDo.after {p q : Mv} {r1 t1 r2 t2 : Nat} (hM : mayS b roles s = true) (hp : CanDo b roles s p r1 t1) (hq : CanDo b roles s q r2 t2) (hne : r1 ≠ r2) : CanDo b roles (doS b roles s p) q r2 t2 := by
  obtain ⟨h1, h5, h3, h4, hro⟩ := mayS_at hM
  obtain ⟨o, ho, hv⟩ := stepAt_set r1 p.label (stNd b s r1).arms
  have hat := do_at hp
  rw [ho] at hat
  have hatN : atN (doS b roles s p) r2 = atN s r2 := by simp only [atN]; rw [hat, setO_get _ (Ne.symm hne)]
  have hnd : stNd b (doS b roles s p) r2 = stNd b s r2 := by simp only [stNd, hatN]
  have hpe : peerI b roles (doS b roles s p) r2 = peerI b roles s r2 := by simp only [peerI, hnd]
  have hqp : moveQ b roles s p < s.mail.length := by rw [h4]; exact hp.qlt
  have hml : ∀ i, mailAt (doS b roles s p) i = if i = moveQ b roles s p then Sy.moveM b roles s p else mailAt s i := fun i => mailAt_set hqp _ i
  refine ⟨hq.lt, hq.tlt, hq.ne, hq.role, by rw [hpe]; exact hq.peer, ?_, by rw [hnd]; exact hq.arm⟩
  rw [hnd]
  rcases hq.kind with ⟨hk, hn, hl⟩ | ⟨hk, hn, rest, hqq⟩
  · refine .inl ⟨hk, hn, ?_⟩
    rw [hml]
    split
    · rename_i he
      rcases hp.moveM with ⟨hk1, _, e⟩ | ⟨hk2, rs, e1, e2⟩
      · rcases hp.queue with ⟨_, e'⟩ | ⟨h2, _⟩
        · rw [e'] at he
          exact absurd (idx_inj hq.tlt hp.tlt he).1.symm hne
        · omega
      · rw [e2]
        rw [← he] at e1
        rw [e1] at hl
        simp at hl; omega
    · exact hl
  · refine .inr ⟨hk, hn, ?_⟩
    rw [hml]
    split
    · rename_i he
      rcases hp.moveM with ⟨hk1, _, e⟩ | ⟨hk2, rs, e1, e2⟩
      · rw [e, ← he, hqq]
        exact ⟨rest ++ [p.label], rfl⟩
      · rcases hp.queue with ⟨h2, _⟩ | ⟨_, e'⟩
        · omega
        · rw [e'] at he
          exact absurd (idx_inj hq.lt hp.lt he).2.symm hne
    · exact ⟨rest, hqq⟩
end
end Go.Sy
