/- Symbolic states: calls; a state made weaker. -/
import Derived.Test.YthjpcefjgmklfaaSymJ
namespace Go.Sy
set_option linter.unusedSimpArgs false
set_option linter.unusedVariables false
set_option linter.unusedSectionVars false
open Go.RowKit

def evalArgs (tm : TM) : List Operand → Option (List SV)
  | [] => some []
  | x :: r => match evalD tm x with
    | some s => match evalArgs tm r with
      | some l => some (s :: l)
      | none => none
    | none => none

theorem evalArgs_rep {C : Ctx} {H : Nat → Value} {Z : Nat → Nat} {n : Nat} {tm : TM} {mm : MM} {a : Act} {w : World} (h : Mod C H Z n tm mm a w) :
    ∀ {xs : List Operand} {l : List SV}, evalArgs tm xs = some l → Pw (fun v s => RepSV (Iof mm) H Z w (Mof C H mm) v s) (xs.map a.eval) l
  | [], l, he => by simp [evalArgs] at he; subst he; exact Pw.nil
  | x :: xs, l, he => by
    unfold evalArgs at he
    split at he
    · rename_i s hs
      split at he
      · rename_i l' hl
        injection he with he; subst he
        exact Pw.cons (evalD_rep h hs) (evalArgs_rep h hl)
      · cases he
    · cases he

/-- The ids of a contract are 'given + i'; here they are the caller's. -/
def nthN : List Nat → Nat → Option Nat
  | [], _ => none
  | a :: _, 0 => some a
  | _ :: l, k + 1 => nthN l k
theorem nthN_eq : ∀ (l : List Nat) (j : Nat), nthN l j = l[j]?
  | [], j => by cases j <;> rfl
  | o :: l, 0 => rfl
  | o :: l, j + 1 => by simpa [nthN] using nthN_eq l j

def renI (ids : List Nat) (i : Nat) : Option Nat :=
  match Nat.ble given i with
  | true => nthN ids (i - given)
  | false => none
def renIs (ids : List Nat) : List Nat → Option (List Nat)
  | [] => some []
  | i :: l => match renI ids i with
    | some j => match renIs ids l with
      | some r => some (j :: r)
      | none => none
    | none => none
def renC (ids : List Nat) : SC → Option SC
  | .c x => some (.c x)
  | .ptr i off => match renI ids i with
    | some j => some (.ptr j off)
    | none => none
  | .clo f caps => match renIs ids caps with
    | some l => some (.clo f l)
    | none => none
  | .eptr cs => some (.eptr cs)
  | _ => none
def renCs (ids : List Nat) : List SC → Option (List SC)
  | [] => some []
  | a :: l => match renC ids a with
    | some a' => match renCs ids l with
      | some l' => some (a' :: l')
      | none => none
    | none => none
def renV (ids : List Nat) : SV → Option SV
  | .one s => match renC ids s with
    | some s' => some (.one s')
    | none => none
  | .agg l => match renCs ids l with
    | some l' => some (.agg l')
    | none => none
def renVs (ids : List Nat) : List SV → Option (List SV)
  | [] => some []
  | a :: l => match renV ids a with
    | some a' => match renVs ids l with
      | some l' => some (a' :: l')
      | none => none
    | none => none

section
variable {I I' : Nat → Prop} {H H' : Nat → Value} {Z Z' : Nat → Nat} {w : World} {M M' : Nat → Prop} {ids : List Nat}

theorem renI_spec {i j : Nat} (h : renI ids i = some j) : given ≤ i ∧ ids[i - given]? = some j := by
  unfold renI at h
  split at h
  · rename_i hb; exact ⟨Nat.ble_eq.mp hb, by rw [← nthN_eq]; exact h⟩
  · cases h

theorem renIs_spec : ∀ {l r : List Nat}, renIs ids l = some r → l.length = r.length ∧ ∀ (k i j : Nat), l[k]? = some i → r[k]? = some j → renI ids i = some j
  | [], r, h => by simp [renIs] at h; subst h; simp
  | a :: l, r, h => by
    unfold renIs at h
    split at h
    · rename_i j hj
      split at h
      · rename_i r' hr'
        injection h with h; subst h
        obtain ⟨h1, h2⟩ := renIs_spec hr'
        refine ⟨by simp [h1], fun k i j' hi hj' => ?_⟩
        cases k with
        | zero => simp at hi hj'; subst hi hj'; exact hj
        | succ k => exact h2 k i j' (by simpa using hi) (by simpa using hj')
      · cases h
    · cases h

/-- From the caller's reading to the contract's. -/
theorem renC_rep (hI : ∀ i j, renI ids i = some j → I j → I' i ∧ H' i = H j) (hM : ∀ b, b < w.heap.size → M' b → M b) {s r : SC} (h : renC ids s = some r) {v : Value}
    (hr : RepSC I H Z w M v r) : RepSC I' H' Z' w M' v s := by
  cases s <;> simp only [renC] at h <;> try (cases h; done)
  · injection h with h; subst h; exact RepC.mono hr (Nat.le_refl _) (fun _ _ _ => rfl) hM
  · split at h
    · rename_i j hj
      injection h with h; subst h
      obtain ⟨h1, b, h2, h3⟩ := hr
      obtain ⟨k1, k2⟩ := hI _ _ hj h1
      exact ⟨k1, b, by rw [k2]; exact h2, h3⟩
    · cases h
  · injection h with h; subst h
    exact RepSC.mono (x := .eptr _) hr (fun j hj _ => by simp [SC.uses] at hj) (Nat.le_refl _) (fun _ _ _ => rfl) hM
  · rename_i g caps
    split at h
    · rename_i l hl
      injection h with h; subst h
      obtain ⟨h1, vs, h2, h3, h4⟩ := hr
      obtain ⟨e1, e2⟩ := renIs_spec hl
      have key : ∀ i ∈ caps, ∃ j, renI ids i = some j ∧ I j := by
        intro i hi
        obtain ⟨k, hk, hki⟩ := List.mem_iff_getElem.1 hi
        have hkr : k < l.length := by omega
        have h5 := e2 k i l[k] (by rw [List.getElem?_eq_getElem hk, hki]) (List.getElem?_eq_getElem hkr)
        exact ⟨l[k], h5, h1 _ (List.getElem_mem hkr)⟩
      refine ⟨fun i hi => ?_, vs, h2, by omega, fun k i hk => ?_⟩
      · obtain ⟨j, hj, hIj⟩ := key i hi
        exact (hI i j hj hIj).1
      · have hkc : k < caps.length := (List.getElem?_eq_some_iff.1 hk).1
        have hkr : k < l.length := by omega
        have h5 := e2 k i l[k] hk (List.getElem?_eq_getElem hkr)
        rw [(hI i _ h5 (h1 _ (List.getElem_mem hkr))).2]
        exact h4 k _ (List.getElem?_eq_getElem hkr)
    · cases h

theorem renCs_rep (hI : ∀ i j, renI ids i = some j → I j → I' i ∧ H' i = H j) (hM : ∀ b, b < w.heap.size → M' b → M b) : ∀ {l r : List SC} {us : List Value}, renCs ids l = some r →
    Pw (fun u c => RepSC I H Z w M u c) us r → Pw (fun u c => RepSC I' H' Z' w M' u c) us l
  | [], r, us, h, hp => by simp [renCs] at h; subst h; exact ⟨hp.1, fun j c hc => by simp at hc⟩
  | s :: l, r, us, h, hp => by
    unfold renCs at h
    split at h
    · rename_i a' ha
      split at h
      · rename_i l' hl
        injection h with h; subst h
        match us, hp with
        | [], hp => exact absurd hp.1 (by simp)
        | u :: us, hp =>
          obtain ⟨u', hu', hr⟩ := hp.2 0 a' rfl
          simp at hu'; subst hu'
          exact Pw.cons (renC_rep hI hM ha hr) (renCs_rep hI hM hl ⟨by simpa using hp.1, fun j c hc => by simpa using hp.2 (j + 1) c (by simpa using hc)⟩)
      · cases h
    · cases h

theorem renV_rep (hI : ∀ i j, renI ids i = some j → I j → I' i ∧ H' i = H j) (hM : ∀ b, b < w.heap.size → M' b → M b) {s r : SV} (h : renV ids s = some r) {v : Value}
    (hr : RepSV I H Z w M v r) : RepSV I' H' Z' w M' v s := by
  cases s with
  | one s =>
    simp only [renV] at h
    split at h
    · rename_i hs; injection h with h; subst h; exact renC_rep hI hM hs hr
    · cases h
  | agg l =>
    simp only [renV] at h
    split at h
    · rename_i l' hs
      injection h with h; subst h
      obtain ⟨vs, h1, h2, h3⟩ := hr
      have := renCs_rep (Z' := Z') (us := vs.toList) hI hM hs ⟨by simpa using h2, fun j c hc => by simpa using h3 j c hc⟩
      exact ⟨vs, h1, by simpa using this.1, fun j c hc => by simpa using this.2 j c hc⟩
    · cases h

theorem renVs_rep (hI : ∀ i j, renI ids i = some j → I j → I' i ∧ H' i = H j) (hM : ∀ b, b < w.heap.size → M' b → M b) : ∀ {l r : List SV} {us : List Value}, renVs ids l = some r →
    Pw (fun u c => RepSV I H Z w M u c) us r → Pw (fun u c => RepSV I' H' Z' w M' u c) us l
  | [], r, us, h, hp => by simp [renVs] at h; subst h; exact ⟨hp.1, fun j c hc => by simp at hc⟩
  | s :: l, r, us, h, hp => by
    unfold renVs at h
    split at h
    · rename_i a' ha
      split at h
      · rename_i l' hl
        injection h with h; subst h
        match us, hp with
        | [], hp => exact absurd hp.1 (by simp)
        | u :: us, hp =>
          obtain ⟨u', hu', hr⟩ := hp.2 0 a' rfl
          simp at hu'; subst hu'
          exact Pw.cons (renV_rep hI hM ha hr) (renVs_rep hI hM hl ⟨by simpa using hp.1, fun j c hc => by simpa using hp.2 (j + 1) c (by simpa using hc)⟩)
      · cases h
    · cases h
end

/-- The frozen contents of the variables that are handed on. -/
def preE (mm : MM) : List Nat → Option (List (List CT))
  | [] => some []
  | i :: l => match getM mm i with
    | some (.box cs) => match ctsOf cs with
      | some ct => match preE mm l with
        | some r => some (ct :: r)
        | none => none
      | none => none
    | _ => none
def updMs (mm : MM) : List Nat → List (List CT) → MM
  | i :: l, ct :: r => updMs (updM mm i (.box (ct.map SC.c))) l r
  | _, _ => mm
def noDup : List Nat → Bool
  | [] => true
  | i :: l => match hasN l i with
    | true => false
    | false => noDup l

theorem noDup_spec : ∀ {l : List Nat}, noDup l = true → l.Nodup
  | [], _ => List.nodup_nil
  | i :: l, h => by
    unfold noDup at h
    split at h
    · cases h
    · rename_i hh; exact List.nodup_cons.2 ⟨hasN_spec hh, noDup_spec h⟩

theorem nodup_inj {l : List Nat} (h : l.Nodup) {i j : Nat} (hi : i < l.length) (hj : j < l.length) (e : l[i] = l[j]) : i = j := by
  rw [List.nodup_iff_pairwise_ne, List.pairwise_iff_getElem] at h
  rcases Nat.lt_trichotomy i j with k | k | k
  · exact absurd e (h i j hi hj k)
  · exact k
  · exact absurd e.symm (h j i hj hi k)

theorem preE_spec {mm : MM} : ∀ {ids : List Nat} {pre : List (List CT)}, preE mm ids = some pre →
    pre.length = ids.length ∧ ∀ (k i : Nat) (ct : List CT), ids[k]? = some i → pre[k]? = some ct → ∃ cs, (i, MO.box cs) ∈ mm ∧ ctsOf cs = some ct
  | [], pre, h => by simp [preE] at h; subst h; simp
  | i :: l, pre, h => by
    unfold preE at h
    split at h
    · rename_i cs hg
      split at h
      · rename_i ct hct
        split at h
        · rename_i r hr
          injection h with h; subst h
          obtain ⟨h1, h2⟩ := preE_spec hr
          refine ⟨by simp [h1], fun k i' ct' hi hc => ?_⟩
          cases k with
          | zero => simp at hi hc; subst hi hc; exact ⟨cs, getM_mem hg, hct⟩
          | succ k => exact h2 k i' ct' (by simpa using hi) (by simpa using hc)
        · cases h
      · cases h
    · cases h

theorem preMM_get : ∀ {l : List (List CT)} {i : Nat} {p : Nat × MO}, p ∈ preMM i l → ∃ (k : Nat) (ct : List CT), l[k]? = some ct ∧ p = (i + k, .box (ct.map SC.c))
  | [], i, p, h => by simp [preMM] at h
  | cs :: l, i, p, h => by
    unfold preMM at h
    rcases List.mem_cons.1 h with rfl | h
    · exact ⟨0, cs, rfl, rfl⟩
    · obtain ⟨k, ct, h1, h2⟩ := preMM_get h
      exact ⟨k + 1, ct, by simpa using h1, by rw [h2]; congr 1; omega⟩
theorem preMM_put : ∀ {l : List (List CT)} {i k : Nat} {ct : List CT}, l[k]? = some ct → (i + k, MO.box (ct.map SC.c)) ∈ preMM i l
  | [], i, k, ct, h => by simp at h
  | cs :: l, i, 0, ct, h => by simp at h; subst h; exact List.mem_cons_self
  | cs :: l, i, k + 1, ct, h => by
    unfold preMM
    have := preMM_put (l := l) (i := i + 1) (k := k) (ct := ct) (by simpa using h)
    exact List.mem_cons_of_mem _ (by rw [show i + (k + 1) = i + 1 + k by omega]; exact this)

theorem updMs_mem : ∀ {ids : List Nat} {post : List (List CT)} {mm : MM} {p : Nat × MO}, ids.Nodup → ids.length = post.length → p ∈ updMs mm ids post →
    (∃ (k : Nat) (ct : List CT), ids[k]? = some p.1 ∧ post[k]? = some ct ∧ p.2 = .box (ct.map SC.c) ∧ Iof mm p.1) ∨ (p ∈ mm ∧ p.1 ∉ ids)
  | [], post, mm, p, _, _, h => .inr ⟨by cases post <;> exact h, by simp⟩
  | i :: l, [], mm, p, _, hl, h => by simp at hl
  | i :: l, ct :: r, mm, p, hn, hl, h => by
    unfold updMs at h
    obtain ⟨hn1, hn2⟩ := List.nodup_cons.1 hn
    rcases updMs_mem hn2 (by simpa using hl) h with ⟨k, ct', h1, h2, h3, h4⟩ | ⟨h1, h2⟩
    · exact .inl ⟨k + 1, ct', by simpa using h1, by simpa using h2, h3, (updM_ids _).1 h4⟩
    · rcases updM_mem p h1 with ⟨rfl, k⟩ | ⟨k1, k2⟩
      · exact .inl ⟨0, ct, rfl, rfl, rfl, k⟩
      · exact .inr ⟨k1, by simp only [List.mem_cons, not_or]; exact ⟨k2, h2⟩⟩
theorem updMs_ids : ∀ {ids : List Nat} {post : List (List CT)} {mm : MM} (j : Nat), Iof (updMs mm ids post) j ↔ Iof mm j
  | [], post, mm, j => by cases post <;> exact Iff.rfl
  | i :: l, [], mm, j => Iff.rfl
  | i :: l, ct :: r, mm, j => by unfold updMs; rw [updMs_ids j, updM_ids]

section
variable {C : Ctx} {n : Nat} {tm : TM} {mm : MM} {o : Oper} {d : Nat}

/-- The state behind a call. -/
theorem Mod.called {H : Nat → Value} {Z : Nat → Nat} {a : Act} {w w' : World} (hm : Mod C H Z n tm mm a w) {ids : List Nat} {pre post : List (List CT)} {res : ST} {v : Value}
    (hnd : ids.Nodup) (hpre : preE mm ids = some pre) (hlen : ids.length = post.length) (hpure : pureS res = true) {Hc : Nat → Value} (hHc : ∀ k i, ids[k]? = some i → Hc (given + k) = H i)
    (hext : Ext (blksOf Hc (preMM given pre)) w w')
    (hpost : ∀ p ∈ preMM given post, MemOK (Iof (preMM given pre)) Hc Z w' (fun b => Mof C H mm b ∨ blksOf Hc (preMM given pre) b) p.1 p.2)
    (hres : RepST (Iof (preMM given pre)) Hc Z w' (fun b => Mof C H mm b ∨ blksOf Hc (preMM given pre) b) v res) (hd : d < n) :
    Mod C H Z n ((d, res) :: delL tm d) (updMs mm ids post) (a.put (some d) v) w' := by
  obtain ⟨hpl, hpg⟩ := preE_spec hpre
  have hblk : ∀ b, blksOf Hc (preMM given pre) b → ∃ (k i : Nat), ids[k]? = some i ∧ Iof mm i ∧ hblk (H i) = some b := by
    rintro b ⟨p, hp, hpb⟩
    obtain ⟨k, ct, hk, rfl⟩ := preMM_get hp
    have hkl : k < ids.length := by rw [← hpl]; exact (List.getElem?_eq_some_iff.1 hk).1
    have hi : ids[k]? = some ids[k] := List.getElem?_eq_getElem hkl
    obtain ⟨cs, hcs, _⟩ := hpg k _ ct hi hk
    rw [hHc k _ hi] at hpb
    exact ⟨k, _, hi, ⟨_, hcs, rfl⟩, hpb⟩
  have hI : ∀ j, Iof mm j → Iof (updMs mm ids post) j := fun j hj => (updMs_ids j).2 hj
  have hM : ∀ b, Mof C H (updMs mm ids post) b → Mof C H mm b := by
    rintro b (hb | ⟨p, hp, hpb⟩)
    · exact .inl hb
    · obtain ⟨q, hq, hqe⟩ := (updMs_ids p.1).1 ⟨p, hp, rfl⟩
      exact .inr ⟨q, hq, by rw [hqe]; exact hpb⟩
  refine hm.build (blksOf Hc (preMM given pre)) hext (fun b _ hb => ?_) (by simpa [Act.put] using hm.defers) (by simp [Act.put, hm.size]) ?_ ?_ ?_ ?_ ?_
  · obtain ⟨k, i, _, ⟨p, hp, hpe⟩, hib⟩ := hblk b hb
    exact ⟨p, hp, by rw [hpe]; exact hib⟩
  · intro p hp hpg'
    obtain ⟨q, hq, hqe⟩ := (updMs_ids p.1).1 ⟨p, hp, rfl⟩
    rw [← hqe]; exact hm.hg q hq (by rw [hqe]; exact hpg')
  · intro p hp q hq he
    rcases updMs_mem hnd hlen hp with ⟨k, ct, h1, h2, h3, h4⟩ | ⟨h1, h2⟩ <;> rcases updMs_mem hnd hlen hq with ⟨k', ct', h1', h2', h3', h4'⟩ | ⟨h1', h2'⟩
    · have hkk : k = k' := by
        have e1 := List.getElem?_eq_some_iff.1 h1
        have e2 := List.getElem?_eq_some_iff.1 h1'
        obtain ⟨l1, g1⟩ := e1
        obtain ⟨l2, g2⟩ := e2
        exact nodup_inj hnd l1 l2 (by rw [g1, g2, he])
      subst hkk
      rw [h2] at h2'; injection h2' with h2'; subst h2'
      exact Prod.ext he (by rw [h3, h3'])
    · exact absurd (List.mem_of_getElem? h1) (by rw [he]; exact h2')
    · exact absurd (List.mem_of_getElem? h1') (by rw [← he]; exact h2)
    · exact hm.ids p h1 q h1' he
  · intro p hp
    rcases updMs_mem hnd hlen hp with ⟨k, ct, h1, h2, h3, h4⟩ | ⟨h1, h2⟩
    · refine .inr ⟨fun b hb => ?_, fun _ _ => ?_⟩
      · obtain ⟨q, hq, hqe⟩ := h4
        exact .inr ⟨q, hq, by rw [hqe]; exact hb, .inl hqe.symm⟩
      · have h5 := hpost _ (preMM_put (i := given) h2)
        obtain ⟨b, ty, vs, g1, g2, g3, g4⟩ := h5
        rw [h3]
        refine ⟨b, ty, vs, by rw [← hHc k _ h1]; exact g1, g2, g3, fun j c hc => ?_⟩
        obtain ⟨u, hu, ho, hr⟩ := g4 j c hc
        refine ⟨u, hu, ho, ?_⟩
        rw [List.getElem?_map] at hc
        cases hq : ct[j]? with
        | none => rw [hq] at hc; cases hc
        | some x =>
          rw [hq] at hc; injection hc with hc; subst hc
          exact RepC.mono hr (Nat.le_refl _) (fun _ _ _ => rfl) (fun q _ hq => .inl (hM q hq))
    · refine .inl ⟨h1, rfl, rfl, fun b hb hx => ?_, fun j _ hj => ⟨hI j hj, rfl, rfl⟩⟩
      obtain ⟨k, i, hki, ⟨q, hq, hqe⟩, hib⟩ := hblk b hx
      have hne : p.1 ≠ q.1 := by rw [hqe]; intro e; exact h2 (by rw [e]; exact List.mem_of_getElem? hki)
      exact hm.sep p h1 q hq hne b hb (by rw [hqe]; exact hib)
  · intro p hp q hq hpq b hpb hqb
    obtain ⟨p', hp', e1⟩ := (updMs_ids p.1).1 ⟨p, hp, rfl⟩
    obtain ⟨q', hq', e2⟩ := (updMs_ids q.1).1 ⟨q, hq, rfl⟩
    exact hm.sep p' hp' q' hq' (by rw [e1, e2]; exact hpq) b (by rw [e1]; exact hpb) (by rw [e2]; exact hqb)
  · intro p hp
    rcases List.mem_cons.1 hp with rfl | hp
    · refine .inr fun _ _ => ?_
      rw [put_self (by rw [hm.size]; exact hd)]
      exact hres.mono (fun i hi => by rw [pureS_uses hpure] at hi; cases hi) (Nat.le_refl _) (fun _ _ _ => rfl) (fun q _ hq => .inl (hM q hq))
    · obtain ⟨h1, h2⟩ := delL_mem hp
      exact .inl ⟨p, h1, rfl, put_other h2, fun j _ hj => ⟨hI j hj, rfl, rfl⟩⟩

theorem call_core {f : FuncId} {pre post : List (List CT)} {args args' : List SV} {res : ST} (hc : Con C.P f pre args res post) {ids : List Nat} {H : Nat → Value} {Z : Nat → Nat} {a : Act} {w : World}
    (hm : Mod C H Z n tm mm a w) {vs : List Value} (hv : Pw (fun v s => RepSV (Iof mm) H Z w (Mof C H mm) v s) vs args') (hren : renVs ids args = some args') (hpre : preE mm ids = some pre)
    (hnd : noDup ids = true) (hlen : post.length = pre.length) (hpure : pureS res = true) (hd : d < n)
    (K : Act → World → Prop) (Q : Exit → Act → World → Prop) (hK : ∀ a' w', Has C n ((d, res) :: delL tm d) (updMs mm ids post) a' w' → K a' w') :
    Calls C.P f vs.toArray w fun
      | .returned v, w'' => K (a.put (some d) v) w''
      | .panicked chain, w'' => Q (.panic chain) a w''
      | .outgrown, _ => LetsOut Q := by
  obtain ⟨hpl, hpg⟩ := preE_spec hpre
  have hnd' := noDup_spec hnd
  let Hc : Nat → Value := fun j => H ((ids[j - given]?).getD 0)
  have hHc : ∀ k i, ids[k]? = some i → Hc (given + k) = H i := by
    intro k i hk
    simp [Hc, hk]
  have hIr : ∀ i j, renI ids i = some j → Iof mm j → Iof (preMM given pre) i ∧ Hc i = H j := by
    intro i j hij _
    obtain ⟨h1, h2⟩ := renI_spec hij
    have hk : i - given < pre.length := by rw [hpl]; exact (List.getElem?_eq_some_iff.1 h2).1
    have := preMM_put (i := given) (List.getElem?_eq_getElem hk)
    refine ⟨⟨_, this, by show given + (i - given) = i; omega⟩, ?_⟩
    have := hHc _ _ h2
    rwa [show given + (i - given) = i by omega] at this
  have hblk : ∀ b, blksOf Hc (preMM given pre) b → Mof C H mm b := by
    rintro b ⟨p, hp, hpb⟩
    obtain ⟨k, ct, hk, rfl⟩ := preMM_get hp
    have hkl : k < ids.length := by rw [← hpl]; exact (List.getElem?_eq_some_iff.1 hk).1
    have hi : ids[k]? = some ids[k] := List.getElem?_eq_getElem hkl
    obtain ⟨cs, hcs, _⟩ := hpg k _ ct hi hk
    rw [hHc k _ hi] at hpb
    exact .inr ⟨_, hcs, hpb⟩
  have hM : ∀ b, b < w.heap.size → (Mof C H mm b ∨ blksOf Hc (preMM given pre) b) → Mof C H mm b := fun b _ hb => hb.elim id (hblk b)
  have hPre : Pre w (Mof C H mm) Hc Z (preMM given pre) := by
    refine ⟨?_, ?_, ?_, ?_⟩
    · rintro b (hb | ⟨p, hp, hpb⟩)
      · exact Nat.lt_of_lt_of_le (hm.m0 b hb) hm.ext.size
      · exact (hm.fresh p hp b hpb).2
    · intro p hp
      obtain ⟨k, ct, hk, rfl⟩ := preMM_get hp
      have hkl : k < ids.length := by rw [← hpl]; exact (List.getElem?_eq_some_iff.1 hk).1
      have hi : ids[k]? = some ids[k] := List.getElem?_eq_getElem hkl
      obtain ⟨cs, hcs, hct⟩ := hpg k _ ct hi hk
      obtain ⟨b, ty, vs', g1, g2, g3, g4⟩ := hm.mem _ hcs
      have hpw : Pw (fun u c => RepSC (Iof mm) H Z w (Mof C H mm) u c) vs'.toList cs := ⟨by simpa using g3, fun j c hc => let ⟨u, hu, _, hr⟩ := g4 j c hc; ⟨u, by simpa using hu, hr⟩⟩
      have hcp := ctsOf_pw hct hpw
      refine ⟨b, ty, vs', by rw [hHc k _ hi]; exact g1, g2, by simpa using hcp.1, fun j c hc => ?_⟩
      rw [List.getElem?_map] at hc
      cases hq : ct[j]? with
      | none => rw [hq] at hc; cases hc
      | some x =>
        rw [hq] at hc; injection hc with hc; subst hc
        obtain ⟨u, hu, hr⟩ := hcp.2 j x hq
        exact ⟨u, by simpa using hu, hr.one, RepC.mono hr (Nat.le_refl _) (fun _ _ _ => rfl) hM⟩
    · intro p hp b hb
      rcases hblk b ⟨p, hp, hb⟩ with h0 | ⟨q, hq, hqb⟩
      · exact Nat.lt_of_lt_of_le (hm.m0 b h0) hm.ext.size
      · exact (hm.fresh q hq b hqb).2
    · intro p hp q hq hpq b hpb hqb
      obtain ⟨k, ct, hk, rfl⟩ := preMM_get hp
      obtain ⟨k', ct', hk', rfl⟩ := preMM_get hq
      have hkl : k < ids.length := by rw [← hpl]; exact (List.getElem?_eq_some_iff.1 hk).1
      have hkl' : k' < ids.length := by rw [← hpl]; exact (List.getElem?_eq_some_iff.1 hk').1
      have hi : ids[k]? = some ids[k] := List.getElem?_eq_getElem hkl
      have hi' : ids[k']? = some ids[k'] := List.getElem?_eq_getElem hkl'
      obtain ⟨cs, hcs, _⟩ := hpg k _ ct hi hk
      obtain ⟨cs', hcs', _⟩ := hpg k' _ ct' hi' hk'
      rw [hHc k _ hi] at hpb
      rw [hHc k' _ hi'] at hqb
      have hne : ids[k] ≠ ids[k'] := fun e => by
        have hkk : k = k' := nodup_inj hnd' hkl hkl' e
        subst hkk
        exact hpq rfl
      exact hm.sep _ hcs _ hcs' hne b hpb hqb
  refine (hc.calls w (Mof C H mm) Hc Z vs hPre (renVs_rep hIr hM hren hv)).mono ?_
  rintro e w' ⟨v, rfl, hext, hpost, hres⟩
  exact hK _ _ ⟨H, Z, hm.called hnd' hpre (by rw [hlen, hpl]) hpure hHc hext hpost hres hd⟩

/-- A call of a function by its name. -/
theorem op_call {f : FuncId} {pre post : List (List CT)} {args args' : List SV} {res : ST} (hc : Con C.P f pre args res post) (ids : List Nat) {xs : Array Operand} {ts : Array TypeId}
    (ho : o.op = .call { callee := .value (.func f), args := xs, argTypes := ts }) (hargs : evalArgs tm xs.toList = some args') (hren : renVs ids args = some args') (hpre : preE mm ids = some pre)
    (hnd : noDup ids = true) (hlen : post.length = pre.length) (hpure : pureS res = true) (hd : o.dst = some d) (hn : Nat.blt d n = true) :
    OpW C n o tm mm ((d, res) :: delL tm d) (updMs mm ids post) := by
  intro a w K Q ⟨H, Z, hm⟩ hK
  have hcore := call_core (d := d) hc hm (evalArgs_rep hm hargs) hren hpre hnd hlen hpure (Nat.blt_eq.mp hn) K Q hK
  unfold Oper.wp
  have hrun : (execOp a.eval o).run C.P w = .ok (.enter f (xs.toList.map a.eval).toArray) w := by
    have hmap : xs.map a.eval = (xs.toList.map a.eval).toArray := by simp [← List.map_toArray]
    simp only [execOp, ho, resolve, hmap, Deferred.ofValue, Act.eval, invoke, Sem.run_bind, Sem.run_pure, Result.andThen_ok, Array.append_empty, Array.empty_append, hc.ok w]
  rw [hrun]
  show Calls _ _ _ _ _
  rw [hd]
  exact hcore

def capV : List Nat → List SV
  | [] => []
  | i :: l => .one (.ptr i 0) :: capV l
def appV : List SV → List Nat → List SV
  | [], caps => capV caps
  | s :: l, caps => s :: appV l caps
theorem appV_eq (l : List SV) (caps : List Nat) : appV l caps = l ++ caps.map (fun i => SV.one (.ptr i 0)) := by
  have h : ∀ caps : List Nat, capV caps = caps.map (fun i => SV.one (.ptr i 0)) := by
    intro caps
    induction caps with
    | nil => rfl
    | cons i l ih => simp [capV, ih]
  induction l with
  | nil => simp [appV, h]
  | cons s l ih => simp [appV, ih]

/-- A call of a function value. -/
theorem op_callclo {f : FuncId} {pre post : List (List CT)} {args args' : List SV} {res : ST} (hc : Con C.P f pre args res post) (ids : List Nat) {x : Operand} {caps : List Nat} {xs : Array Operand} {ts : Array TypeId}
    (ho : o.op = .call { callee := .value x, args := xs, argTypes := ts }) (hx : evalC tm x = some (.clo f caps)) (hargs : evalArgs tm xs.toList = some args')
    (hren : renVs ids args = some (appV args' caps)) (hpre : preE mm ids = some pre) (hbox : caps.all (fun i => match getM mm i with | some (.box _) => true | _ => false) = true)
    (hnd : noDup ids = true) (hlen : post.length = pre.length) (hpure : pureS res = true) (hd : o.dst = some d) (hn : Nat.blt d n = true) :
    OpW C n o tm mm ((d, res) :: delL tm d) (updMs mm ids post) := by
  intro a w K Q ⟨H, Z, hm⟩ hK
  obtain ⟨hcI, cvs, hcv, hcl, hcg⟩ := evalC_rep hm hx
  have happ : ∀ (l : List SV) (us : List Value), Pw (fun v s => RepSV (Iof mm) H Z w (Mof C H mm) v s) us l → Pw (fun v s => RepSV (Iof mm) H Z w (Mof C H mm) v s) (us ++ cvs) (appV l caps) := by
    intro l us hp
    rw [appV_eq]
    refine hp.append ⟨by simpa using hcl, fun j c hc' => ?_⟩
    rw [List.getElem?_map] at hc'
    cases hq : caps[j]? with
    | none => rw [hq] at hc'; cases hc'
    | some i =>
      rw [hq] at hc'; injection hc' with hc'; subst hc'
      refine ⟨H i, hcg j i hq, hcI i (List.mem_of_getElem? hq), ?_⟩
      have hb := List.all_eq_true.1 hbox i (List.mem_of_getElem? hq)
      split at hb
      · rename_i cs hg
        obtain ⟨b, _, _, g1, _⟩ := hm.box hg
        exact ⟨b, by rw [g1]; rfl, g1⟩
      · cases hb
  have hcore := call_core (d := d) hc hm (happ _ _ (evalArgs_rep hm hargs)) hren hpre hnd hlen hpure (Nat.blt_eq.mp hn) K Q hK
  unfold Oper.wp
  have hrun : (execOp a.eval o).run C.P w = .ok (.enter f ((xs.toList.map a.eval) ++ cvs).toArray) w := by
    have hmap : xs.map a.eval = (xs.toList.map a.eval).toArray := by simp [← List.map_toArray]
    simp only [execOp, ho, resolve, hmap, hcv, Deferred.ofValue, invoke, Sem.run_bind, Sem.run_pure, Result.andThen_ok, Array.empty_append, hc.ok w, List.append_toArray, List.nil_append]
  rw [hrun]
  show Calls _ _ _ _ _
  rw [hd]
  exact hcore
end
end Go.Sy
