/- Plain law of the stage's moves: a move leads to a valid stage; two moves of two roles commute. -/
import Derived.Test.YthjpcefjgmklfaaGi
set_option linter.unusedSimpArgs false
set_option linter.unusedVariables false
set_option linter.unusedSectionVars false
namespace Go.Sy

def setO (l : List Int) (r : Nat) : Option Int → List Int
  | none => l
  | some v => l.set r v
theorem setO_len (l : List Int) (r : Nat) (o : Option Int) : (setO l r o).length = l.length := by cases o <;> simp [setO]
theorem setO_get (l : List Int) {r q : Nat} (h : q ≠ r) (o : Option Int) : (setO l r o)[q]? = l[q]? := by
  cases o with
  | none => rfl
  | some v => simp [setO, List.getElem?_set_ne (Ne.symm h)]
theorem setO_comm (l : List Int) {r q : Nat} (h : r ≠ q) (o p : Option Int) : setO (setO l r o) q p = setO (setO l q p) r o := by
  cases o <;> cases p <;> simp only [setO]
  rw [List.set_comm _ _ h]
theorem stepAt_set (r : Nat) (label : ByteArray) : ∀ arms : List Edge, ∃ o : Option Int, (∀ at_, stepAt r label at_ arms = setO at_ r o) ∧ ∀ v, o = some v → ∃ a ∈ arms, a.next = v
  | [] => ⟨none, fun _ => rfl, fun v h => by cases h⟩
  | a :: l => by
    obtain ⟨o, h1, h2⟩ := stepAt_set r label l
    have hs : ∀ at_, stepAt r label at_ (a :: l) = stepAt r label (if a.label = label then at_.set r a.next else at_) l := fun _ => rfl
    by_cases ha : a.label = label
    · cases o with
      | none =>
        refine ⟨some a.next, fun at_ => by rw [hs, h1, if_pos ha]; rfl, fun v hv => ⟨a, List.mem_cons_self, by injection hv⟩⟩
      | some v =>
        refine ⟨some v, fun at_ => by rw [hs, h1, if_pos ha]; simp [setO], fun v' hv => ?_⟩
        obtain ⟨x, hx, e⟩ := h2 v' hv
        exact ⟨x, List.mem_cons_of_mem _ hx, e⟩
    · refine ⟨o, fun at_ => by rw [hs, h1, if_neg ha], fun v hv => ?_⟩
      obtain ⟨x, hx, e⟩ := h2 v hv
      exact ⟨x, List.mem_cons_of_mem _ hx, e⟩

theorem book_next {b : Bk} (h : bookB b = true) {x : Nd} (hx : x ∈ b.nodes) : ∀ a ∈ x.arms, 0 ≤ a.next ∧ a.next < (b.nodes.length : Int) := by
  have hn : nodeB b.nodes.length x = true := by
    simp only [bookB, Bool.and_eq_true, List.all_eq_true] at h
    exact h.2.2.2 x hx
  intro a ha
  unfold nodeB at hn
  split at hn
  · simp only [Bool.and_eq_true, decide_eq_true_eq] at hn
    have : x.arms = [] := List.eq_nil_of_length_eq_zero hn.2
    rw [this] at ha; cases ha
  · simp only [Bool.and_eq_true] at hn
    have h5 := hn.2.2.2.2
    unfold armsB at h5
    rw [List.all_eq_true] at h5
    obtain ⟨i, hi, rfl⟩ := List.mem_iff_getElem.1 ha
    have := h5 i (List.mem_range.2 hi)
    unfold okAt at this
    rw [List.getElem?_eq_getElem hi] at this
    simp only [Bool.and_eq_true, decide_eq_true_eq] at this
    exact ⟨this.2.2.1, this.2.2.2.1⟩

section
variable {b : Bk} {roles : List ByteArray} {s : Stg}
theorem mayS_book (h : mayS b roles s = true) : bookB b = true := by
  simp only [mayS, Bool.and_eq_true] at h; exact h.1
theorem mayS_once (h : mayS b roles s = true) : onceB roles = true := by
  simp only [mayS, Bool.and_eq_true] at h; exact h.2.2.2.1
theorem mayS_of (hb : bookB b = true) (h1 : 1 ≤ roles.length) (h5 : roles.length ≤ 5) (ho : onceB roles = true) (ha : s.at_.length = roles.length) (hm : s.mail.length = roles.length * roles.length)
    (hr : ∀ v ∈ s.at_, 0 ≤ v ∧ v < (b.nodes.length : Int)) (hl : ∀ m ∈ s.mail, m.length ≤ 64) : mayS b roles s = true := by
  simp only [mayS, Bool.and_eq_true, decide_eq_true_eq, List.all_eq_true]
  refine ⟨hb, h1, h5, ho, ha, hm, fun v hv => by simpa [atB] using hr v hv, ?_⟩
  simp only [Bool.not_eq_true', List.any_eq_false]
  intro m hmm
  have := hl m hmm
  simp [longB]; omega
theorem stNd_mem {r : Nat} (h : RoleOk b s r) : stNd b s r ∈ b.nodes := by
  have h1 := h.lt
  have e : atN s r = (s.at_[r]).toNat := by simp [atN, h1]
  have hl : (s.at_[r]).toNat < b.nodes.length := by have := h.ge; have := h.le; omega
  simp [stNd, e, hl]
theorem CanDo.mem {m : Mv} {r t : Nat} (h : CanDo b roles s m r t) : m ∈ movesAt b roles s r := by
  have h0 : ¬ ((t : Int) < 0) := by omega
  obtain ⟨kind, role, label⟩ := m
  have hrole := h.role
  simp only at hrole
  subst hrole
  obtain ⟨a, ha, hal⟩ := h.arm
  simp only at hal
  rcases h.kind with ⟨hk, hn, hl⟩ | ⟨hk, hn, rest, hq⟩
  · simp only at hk; subst hk
    simp only [movesAt, h.peer, h0, if_false, Int.toNat_natCast]
    rw [if_pos ⟨hn, hl⟩]
    exact List.mem_map.2 ⟨a, ha, by rw [hal]⟩
  · simp only at hk hq; subst hk
    have hn1 : ¬ ((stNd b s r).kind = 1 ∧ (mailAt s (r * roles.length + t)).length < 64) := fun e => by rw [hn] at e; simp at e
    simp only [movesAt, h.peer, h0, if_false, Int.toNat_natCast]
    rw [if_neg hn1, if_pos hn, hq]
    simp only
    rw [if_pos (List.any_eq_true.2 ⟨a, ha, by simpa using hal⟩)]
    exact List.mem_singleton.2 rfl
theorem moves_of {m : Mv} {r t : Nat} (hM : mayS b roles s = true) (h : CanDo b roles s m r t) : m ∈ movesS b roles s := by
  unfold movesS
  rw [if_pos hM]
  exact List.mem_flatMap.2 ⟨r, List.mem_range.2 h.lt, h.mem⟩

/-- The queue that a move changes; what it holds then. -/
theorem CanDo.queue {m : Mv} {r t : Nat} (h : CanDo b roles s m r t) : (m.kind = 1 ∧ moveQ b roles s m = r * roles.length + t) ∨ (m.kind = 2 ∧ moveQ b roles s m = t * roles.length + r) := by
  have hr : m.role.toNat = r := by rw [h.role]; simp
  have hp : peerN b roles s r = t := by rw [peerN, h.peer]; simp
  rcases h.kind with ⟨hk, _⟩ | ⟨hk, _⟩
  · exact .inl ⟨hk, by simp [moveQ, hk, hr, hp]⟩
  · exact .inr ⟨hk, by simp [moveQ, hk, hr, hp]⟩
theorem CanDo.qlt {m : Mv} {r t : Nat} (h : CanDo b roles s m r t) : moveQ b roles s m < roles.length * roles.length := by
  have key : ∀ x y, x < roles.length → y < roles.length → x * roles.length + y < roles.length * roles.length := fun x y hx hy => by
    have := Nat.mul_le_mul_right roles.length (show x + 1 ≤ roles.length from hx)
    rw [Nat.add_mul] at this; omega
  rcases h.queue with ⟨_, e⟩ | ⟨_, e⟩ <;> rw [e]
  · exact key _ _ h.lt h.tlt
  · exact key _ _ h.tlt h.lt
theorem CanDo.moveM {m : Mv} {r t : Nat} (h : CanDo b roles s m r t) : (m.kind = 1 ∧ (mailAt s (moveQ b roles s m)).length < 64 ∧ moveM b roles s m = mailAt s (moveQ b roles s m) ++ [m.label]) ∨
    (m.kind = 2 ∧ ∃ rest, mailAt s (moveQ b roles s m) = m.label :: rest ∧ moveM b roles s m = rest) := by
  rcases h.kind with ⟨hk, hn, hl⟩ | ⟨hk, hn, rest, hq⟩
  · rcases h.queue with ⟨_, e⟩ | ⟨h2, _⟩
    · exact .inl ⟨hk, by rw [e]; exact hl, by simp [Sy.moveM, hk]⟩
    · omega
  · rcases h.queue with ⟨h2, _⟩ | ⟨_, e⟩
    · omega
    · refine .inr ⟨hk, rest, by rw [e]; exact hq, ?_⟩
      have : ¬ (m.kind = 1) := by omega
      rw [Sy.moveM, if_neg this, e, hq]; rfl
theorem do_at {m : Mv} {r t : Nat} (h : CanDo b roles s m r t) : (doS b roles s m).at_ = stepAt r m.label s.at_ (stNd b s r).arms := by
  have hr : m.role.toNat = r := by rw [h.role]; simp
  simp [doS, hr]
theorem mailAt_set {l : List (List ByteArray)} {a : List Int} {q : Nat} (hq : q < l.length) (m : List ByteArray) (i : Nat) : mailAt ⟨a, l.set q m⟩ i = if i = q then m else mailAt ⟨a, l⟩ i := by
  unfold mailAt
  by_cases h : i = q
  · subst h; simp [hq]
  · rw [if_neg h]
    simp only
    rw [List.getElem?_set_ne (Ne.symm h)]

/-- A move leads to a valid stage. -/
theorem may_do {m : Mv} (h : m ∈ movesS b roles s) : mayS b roles (doS b roles s m) = true := by
  obtain ⟨hM, r, t, hc⟩ := mem_moves h
  obtain ⟨h1, h5, h3, h4, hro⟩ := mayS_at hM
  have hb := mayS_book hM
  obtain ⟨o, ho, hv⟩ := stepAt_set r m.label (stNd b s r).arms
  have hat := do_at hc
  refine mayS_of hb h1 h5 (mayS_once hM) (by rw [hat, stepAt_len]; exact h3) (by simp [doS, h4]) (fun v hvm => ?_) (fun q hq => ?_)
  · rw [hat, ho] at hvm
    have hold : ∀ v ∈ s.at_, 0 ≤ v ∧ v < (b.nodes.length : Int) := fun v hv => by
      obtain ⟨i, hi, rfl⟩ := List.mem_iff_getElem.1 hv
      have := hro i (by omega)
      exact ⟨this.ge, this.le⟩
    cases o with
    | none => exact hold v hvm
    | some u =>
      rcases List.mem_or_eq_of_mem_set hvm with hvm | rfl
      · exact hold v hvm
      · obtain ⟨a, ha, e⟩ := hv _ rfl
        rw [← e]
        exact book_next hb (stNd_mem (hro r hc.lt)) a ha
  · have hq : q ∈ s.mail.set (moveQ b roles s m) (moveM b roles s m) := hq
    rcases List.mem_or_eq_of_mem_set hq with hq | rfl
    · exact mayS_long hM q hq
    · rcases hc.moveM with ⟨_, hl, e⟩ | ⟨_, rest, e1, e2⟩
      · rw [e]; simp; omega
      · rw [e2]
        have hm : mailAt s (moveQ b roles s m) ∈ s.mail := by
          have := hc.qlt
          have hl : moveQ b roles s m < s.mail.length := by omega
          simp [mailAt, hl]
        have := mayS_long hM _ hm
        rw [e1] at this
        simp at this; omega

theorem idx_inj {n a b c d : Nat} (hb : b < n) (hd : d < n) (h : a * n + b = c * n + d) : a = c ∧ b = d := by
  have hn : 0 < n := by omega
  have h1 : (a * n + b) / n = a := by rw [Nat.add_comm, Nat.add_mul_div_right _ _ hn, Nat.div_eq_of_lt hb]; omega
  have h2 : (c * n + d) / n = c := by rw [Nat.add_comm, Nat.add_mul_div_right _ _ hn, Nat.div_eq_of_lt hd]; omega
  have hac : a = c := by rw [← h1, h, h2]
  subst hac
  exact ⟨rfl, by omega⟩

/-- After a move of another role a move stays possible. -/
theorem CanDo.after {p q : Mv} {r1 t1 r2 t2 : Nat} (hM : mayS b roles s = true) (hp : CanDo b roles s p r1 t1) (hq : CanDo b roles s q r2 t2) (hne : r1 ≠ r2) : CanDo b roles (doS b roles s p) q r2 t2 := by
  obtain ⟨h1, h5, h3, h4, hro⟩ := mayS_at hM
  obtain ⟨o, ho, hv⟩ := stepAt_set r1 p.label (stNd b s r1).arms
  have hat := do_at hp
  rw [ho] at hat
  have hatN : atN (doS b roles s p) r2 = atN s r2 := by simp only [atN]; rw [hat, setO_get _ (Ne.symm hne)]
  have hnd : stNd b (doS b roles s p) r2 = stNd b s r2 := by simp only [stNd, hatN]
  have hpe : peerI b roles (doS b roles s p) r2 = peerI b roles s r2 := by simp only [peerI, hnd]
  have hqp : moveQ b roles s p < s.mail.length := by rw [h4]; exact hp.qlt
  have hml : ∀ i, mailAt (doS b roles s p) i = if i = moveQ b roles s p then Sy.moveM b roles s p else mailAt s i := fun i => mailAt_set hqp _ i
  refine ⟨hq.lt, hq.tlt, hq.ne, hq.role, by rw [hpe]; exact hq.peer, ?_, by rw [hnd]; exact hq.arm⟩
  rw [hnd]
  rcases hq.kind with ⟨hk, hn, hl⟩ | ⟨hk, hn, rest, hqq⟩
  · refine .inl ⟨hk, hn, ?_⟩
    rw [hml]
    split
    · rename_i he
      rcases hp.moveM with ⟨hk1, _, e⟩ | ⟨hk2, rs, e1, e2⟩
      · rcases hp.queue with ⟨_, e'⟩ | ⟨h2, _⟩
        · rw [e'] at he
          exact absurd (idx_inj hq.tlt hp.tlt he).1.symm hne
        · omega
      · rw [e2]
        rw [← he] at e1
        rw [e1] at hl
        simp at hl; omega
    · exact hl
  · refine .inr ⟨hk, hn, ?_⟩
    rw [hml]
    split
    · rename_i he
      rcases hp.moveM with ⟨hk1, _, e⟩ | ⟨hk2, rs, e1, e2⟩
      · rw [e, ← he, hqq]
        exact ⟨rest ++ [p.label], rfl⟩
      · rcases hp.queue with ⟨h2, _⟩ | ⟨_, e'⟩
        · omega
        · rw [e'] at he
          exact absurd (idx_inj hq.lt hp.lt he).2.symm hne
    · exact ⟨rest, hqq⟩
/-- The two orders lead to the same stage. -/
theorem do_comm {p q : Mv} {r1 t1 r2 t2 : Nat} (hM : mayS b roles s = true) (hp : CanDo b roles s p r1 t1) (hq : CanDo b roles s q r2 t2) (hne : r1 ≠ r2) :
    doS b roles (doS b roles s p) q = doS b roles (doS b roles s q) p := by
  obtain ⟨h1, h5, h3, h4, hro⟩ := mayS_at hM
  have hq' := hp.after hM hq hne
  have hp' := hq.after hM hp (Ne.symm hne)
  obtain ⟨o1, ho1, _⟩ := stepAt_set r1 p.label (stNd b s r1).arms
  obtain ⟨o2, ho2, _⟩ := stepAt_set r2 q.label (stNd b s r2).arms
  have hat1 := do_at hp
  have hat2 := do_at hq
  rw [ho1] at hat1
  rw [ho2] at hat2
  have hnd2 : stNd b (doS b roles s p) r2 = stNd b s r2 := by
    have hatN : atN (doS b roles s p) r2 = atN s r2 := by simp only [atN]; rw [hat1, setO_get _ (Ne.symm hne)]
    simp only [stNd, hatN]
  have hnd1 : stNd b (doS b roles s q) r1 = stNd b s r1 := by
    have hatN : atN (doS b roles s q) r1 = atN s r1 := by simp only [atN]; rw [hat2, setO_get _ hne]
    simp only [stNd, hatN]
  have ha : (doS b roles (doS b roles s p) q).at_ = (doS b roles (doS b roles s q) p).at_ := by
    rw [do_at hq', do_at hp', hnd2, hnd1, hat1, hat2, ho1, ho2]
    exact setO_comm _ hne _ _
  have hqp : moveQ b roles s p < s.mail.length := by rw [h4]; exact hp.qlt
  have hqq : moveQ b roles s q < s.mail.length := by rw [h4]; exact hq.qlt
  have hQ2 : moveQ b roles (doS b roles s p) q = moveQ b roles s q := by
    rcases hq.queue with ⟨k, e⟩ | ⟨k, e⟩ <;> rcases hq'.queue with ⟨k', e'⟩ | ⟨k', e'⟩ <;> first | (rw [e, e']; done) | omega
  have hQ1 : moveQ b roles (doS b roles s q) p = moveQ b roles s p := by
    rcases hp.queue with ⟨k, e⟩ | ⟨k, e⟩ <;> rcases hp'.queue with ⟨k', e'⟩ | ⟨k', e'⟩ <;> first | (rw [e, e']; done) | omega
  have hml1 : ∀ i, mailAt (doS b roles s p) i = if i = moveQ b roles s p then Sy.moveM b roles s p else mailAt s i := fun i => mailAt_set hqp _ i
  have hml2 : ∀ i, mailAt (doS b roles s q) i = if i = moveQ b roles s q then Sy.moveM b roles s q else mailAt s i := fun i => mailAt_set hqq _ i
  have hm : (doS b roles (doS b roles s p) q).mail = (doS b roles (doS b roles s q) p).mail := by
    show (s.mail.set (moveQ b roles s p) (Sy.moveM b roles s p)).set (moveQ b roles (doS b roles s p) q) (Sy.moveM b roles (doS b roles s p) q) =
      (s.mail.set (moveQ b roles s q) (Sy.moveM b roles s q)).set (moveQ b roles (doS b roles s q) p) (Sy.moveM b roles (doS b roles s q) p)
    rw [hQ1, hQ2]
    have hM2 : Sy.moveM b roles (doS b roles s p) q = if q.kind = 1 then mailAt (doS b roles s p) (moveQ b roles s q) ++ [q.label] else (mailAt (doS b roles s p) (moveQ b roles s q)).drop 1 := by rw [Sy.moveM, hQ2]
    have hM1 : Sy.moveM b roles (doS b roles s q) p = if p.kind = 1 then mailAt (doS b roles s q) (moveQ b roles s p) ++ [p.label] else (mailAt (doS b roles s q) (moveQ b roles s p)).drop 1 := by rw [Sy.moveM, hQ1]
    rw [hM1, hM2, hml1, hml2]
    by_cases he : moveQ b roles s p = moveQ b roles s q
    · rw [if_pos he.symm, if_pos he, he, List.set_set, List.set_set]
      congr 1
      have kinds : (p.kind = 1 ∧ q.kind = 2) ∨ (p.kind = 2 ∧ q.kind = 1) := by
        rcases hp.queue with ⟨k1, e1⟩ | ⟨k1, e1⟩ <;> rcases hq.queue with ⟨k2, e2⟩ | ⟨k2, e2⟩
        · rw [e1, e2] at he; exact absurd (idx_inj hp.tlt hq.tlt he).1 hne
        · exact .inl ⟨k1, k2⟩
        · exact .inr ⟨k1, k2⟩
        · rw [e1, e2] at he; exact absurd (idx_inj hp.lt hq.lt he).2 hne
      rcases kinds with ⟨k1, k2⟩ | ⟨k1, k2⟩
      · rcases hp.moveM with ⟨_, _, e⟩ | ⟨k, _⟩
        · rcases hq.moveM with ⟨k, _⟩ | ⟨_, rest, f1, f2⟩
          · omega
          · rw [if_neg (by omega), if_pos k1, e, f2, he, f1]; rfl
        · omega
      · rcases hq.moveM with ⟨_, _, e⟩ | ⟨k, _⟩
        · rcases hp.moveM with ⟨k, _⟩ | ⟨_, rest, f1, f2⟩
          · omega
          · rw [if_pos k2, if_neg (by omega), e, f2, ← he, f1]; rfl
        · omega
    · rw [if_neg (Ne.symm he), if_neg he, List.set_comm _ _ he]
      rfl
  generalize doS b roles (doS b roles s p) q = x at ha hm
  generalize doS b roles (doS b roles s q) p = y at ha hm
  obtain ⟨xa, xm⟩ := x
  obtain ⟨ya, ym⟩ := y
  simp only at ha hm
  rw [ha, hm]
end
end Go.Sy
