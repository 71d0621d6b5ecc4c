/- The symbolic layer, bundle Sy7. -/
import Derived.Test.YtdjocfajcbhmgaaDoorSy6
set_option linter.unusedSimpArgs false
set_option linter.unusedVariables false
set_option linter.unusedSectionVars false
namespace Go.Sy
open Go.RowKit
section
variable {C : Ctx} {n : Nat} {mm0 : MM} {L : List Oper} {tm0 tm : TM} {l : List Oper} {o : Oper} {d i j : Nat} {s : ST}
def OkV (C : Ctx) (n : Nat) (mm0 : MM) (L : List Oper) (tm : TM) (o : Oper) : Prop :=
  ∃ d s, o.dst = some d ∧ (d, s) ∈ tm ∧
      ∀ tm' mm', Looked L tm o tm' → (∀ q ∈ mm0, q ∈ mm') → ∀ (a : Act) (w : World) (K : Act → World → Prop) (Q : Exit → Act → World → Prop), Has C n tm' mm' a w →
        (∀ a' w', Has C n ((d, s) :: delL tm' d) mm' a' w' → K a' w') →
        if Region.wanted o (yielded L.toArray a.tmps) then o.wp C.P a w K Q else K (a.put o.dst undef) w
theorem OkV.grow (h : OkV C n mm0 L tm o) (hd : o.dst ≠ some d) (hl : d ∉ looksE L o) : OkV C n mm0 L ((d, s) :: delL tm d) o := by
  obtain ⟨d', s', e1, e2, h⟩ := h
  exact ⟨d', s', e1, List.mem_cons_of_mem _ (mem_delL e2 fun e => hd (e ▸ e1)), fun tm' mm' hL => h tm' mm' (hL.back hl)⟩
def EffOK {ι : Type} (C : Ctx) (n : Nat) (L : List Oper) (tmF : TM) (ET : Nat → ι → TM) (MMx : Nat → ι → MM) (k : Nat) (x : ι) (o : Oper) : Prop :=
  ∀ (tm : TM) (a : Act) (w : World) (K : Act → World → Prop) (Q : Exit → Act → World → Prop), Looked L tmF o tm → (∀ p ∈ ET k x, p ∈ tm) → Has C n tm (MMx k x) a w →
    (∀ x' tm' a' w', (∀ p ∈ tmF, p ∈ tm → p ∈ tm') → (∀ p ∈ ET (k + 1) x', p ∈ tm') → Has C n tm' (MMx (k + 1) x') a' w' → K a' w') →
    if Region.wanted o (yielded L.toArray a.tmps) then o.wp C.P a w K Q else K (a.put o.dst undef) w
def closedL (L : List Oper) : Nat → Bool
  | 0 => true
  | k + 1 => match L.any (fun o => memN (ons o.after.toList) k) with
    | true => closedL L k
    | false => false
theorem closedL_spec : ∀ {m : Nat}, closedL L m = true → ∀ k, k < m → ∃ o ∈ L, k ∈ ons o.after.toList
  | 0, _, k, hk => by omega
  | m + 1, h, k, hk => by
    unfold closedL at h
    split at h
    · rename_i ha
      by_cases hkm : k = m
      · subst hkm
        obtain ⟨o, ho, hm⟩ := List.any_eq_true.1 ha
        exact ⟨o, ho, memN_iff.1 hm⟩
      · exact closedL_spec h k (by omega)
    · cases h
def chainL (L : List Oper) : List Nat → Bool
  | [] => true
  | [e] => Nat.beq (e + 1) L.length
  | e :: f :: r => match nthO L f with
    | some o => match memN (ons o.after.toList) e with
      | true => chainL L (f :: r)
      | false => false
    | none => false
theorem chainL_spec : ∀ {E : List Nat}, chainL L E = true → (∀ k e f, E[k]? = some e → E[k + 1]? = some f → ∃ o, L[f]? = some o ∧ e ∈ ons o.after.toList) ∧ (∀ k e, E[k]? = some e → E.length = k + 1 → e + 1 = L.length)
  | [], _ => ⟨fun k e f h => by simp at h, fun k e h => by simp at h⟩
  | [e], h => ⟨fun k e f h1 h2 => by simp at h2, fun k e' h1 h2 => by
      have : k = 0 := by simp at h2; omega
      subst this
      simp at h1; subst h1
      exact Nat.eq_of_beq_eq_true h⟩
  | e :: f :: r, h => by
    unfold chainL at h
    split at h
    · rename_i o ho
      split at h
      · rename_i hm
        obtain ⟨h1, h2⟩ := chainL_spec h
        refine ⟨fun k e' f' g1 g2 => ?_, fun k e' g1 g2 => ?_⟩
        · cases k with
          | zero =>
            simp at g1 g2; subst g1 g2
            exact ⟨o, by rw [← nthO_get]; exact ho, memN_iff.1 hm⟩
          | succ k => exact h1 k e' f' (by simpa using g1) (by simpa using g2)
        · cases k with
          | zero => simp at g2
          | succ k => exact h2 k e' (by simpa using g1) (by simpa using g2)
      · cases h
    · cases h
def DownL (L : List Oper) (listed : Array Bool) : Prop := ∀ j o, L[j]? = some o → listed.getD j false = true → ∀ i ∈ ons o.after.toList, listed.getD i false = true
theorem any_okF {ι : Type} {ET : Nat → ι → TM} {MMx : Nat → ι → MM} {tmF : TM} {E : List Nat} {mmf : Nat → MM} (hrun : ∀ (listed : Array Bool) (k : Nat), DownL L listed → (∀ j e, E[j]? = some e → (listed.getD e false = true ↔ j < k)) → ∀ i, i < L.length → i ∉ E → listed.getD i false = false → ∀ x, ∀ q ∈ mmf i, q ∈ MMx k x) (hok : okR2 L [] L 0 = true) (hV : ∀ (i : Nat) (o : Oper), L[i]? = some o → i ∉ E → OkV C n (mmf i) L tmF o)
    (keyF : ∀ p ∈ tmF, ∀ q ∈ tmF, p.1 = q.1 → p = q) (hEl : E ≠ []) (hch : chainL L E = true)
    (hdF : ∀ p ∈ tmF, ∀ k e, E[k]? = some e → ∀ o, L[e]? = some o → o.dst = some p.1 → ∀ x, p ∈ ET (k + 1) x)
    (hET : ∀ k x, ∀ p ∈ ET k x, ∃ e ∈ E, ∃ o, L[e]? = some o ∧ o.dst = some p.1)
    (hEff : ∀ k e o x, E[k]? = some e → L[e]? = some o → EffOK C n L tmF ET MMx k x o)
    {P : TM → MM → Prop} (hP : ∀ x, P (tmF ++ ET E.length x) (MMx E.length x)) :
    ∀ (fuel : Nat) (listed : Array Bool) (k : Nat) (x : ι) (a : Act) (w : World) (tm : TM), listed.size = L.length → (listed.toList.filter (!·)).length ≤ fuel → (∀ p, keepT L listed tmF p → p ∈ tm) → (∀ p ∈ ET k x, p ∈ tm) →
      (∀ j e, E[j]? = some e → (listed.getD e false = true ↔ j < k)) → k ≤ E.length → (∀ j o, L[j]? = some o → listed.getD j false = true → ∀ i ∈ ons o.after.toList, listed.getD i false = true) → Has C n tm (MMx k x) a w →
      wpAny C.P .any L.toArray (QT C n P) fuel listed a w := by
  obtain ⟨hc1, hc2⟩ := chainL_spec hch
  have hElen : 0 < E.length := List.length_pos_iff.2 hEl
  have hElast : ∀ e, E[E.length - 1]? = some e → e + 1 = L.length := fun e he => hc2 _ e he (by omega)
  have hready : ∀ (listed : Array Bool), listed.size = L.length → Region.ready .any L.toArray listed = [] → ∀ k, k < L.length → listed.getD k false = true := by
    intro listed hsz hr k
    induction k using Nat.strongRecOn with
    | _ k ih =>
      intro hk
      cases hl : listed.getD k false with
      | true => rfl
      | false =>
        have hmem : k ∈ Region.ready .any L.toArray listed := by
          rw [mem_ready]
          refine ⟨?_, L[k], by simp [hk], fun e he hb => ?_⟩
          · have hks : k < listed.size := by omega
            simp [Array.getD, hks] at hl ⊢; exact hl
          · obtain ⟨_, h3⟩ := okR2_get hok k L[k] (List.getElem?_eq_getElem hk)
            have : e.on ∈ ons L[k].after.toList := by
              have key : ∀ l : List Edge, e ∈ l → e.on ∈ ons l := by
                intro l
                induction l with
                | nil => intro h; cases h
                | cons x l ih =>
                  intro h
                  unfold ons
                  rcases List.mem_cons.1 h with rfl | h
                  · rw [hb]; exact List.mem_cons_self
                  · split
                    · exact List.mem_cons_of_mem _ (ih h)
                    · exact ih h
              exact key _ (by simpa using he)
            have hlt := allLt_spec h3 _ this
            exact ih e.on (by omega) (by omega)
        rw [hr] at hmem; cases hmem
  have hdone : ∀ (listed : Array Bool) (k : Nat) (x : ι) (a : Act) (w : World) (tm : TM), listed.size = L.length → (∀ p, keepT L listed tmF p → p ∈ tm) → (∀ p ∈ ET k x, p ∈ tm) → (∀ j e, E[j]? = some e → (listed.getD e false = true ↔ j < k)) → k ≤ E.length → Has C n tm (MMx k x) a w → Region.ready .any L.toArray listed = [] → QT C n P .normal a w := by
    intro listed k x a w tm hsz hk hkE hst hkl hh hr
    have hka : k = E.length := by
      rcases Nat.lt_or_ge k E.length with h | h
      · have he : E[k]? = some E[k] := List.getElem?_eq_getElem h
        have hlt : E[k] < L.length := by
          rcases Nat.lt_or_ge E[k] L.length with h' | h'
          · exact h'
          · exfalso
            rcases Nat.lt_or_ge (k + 1) E.length with h2 | h2
            · obtain ⟨o, ho, hon⟩ := hc1 k _ _ he (List.getElem?_eq_getElem h2)
              obtain ⟨_, h3⟩ := okR2_get hok _ o ho
              have := allLt_spec h3 _ hon
              have := (List.getElem?_eq_some_iff.1 ho).1
              omega
            · have := hc2 k _ he (by omega)
              omega
        have := (hst k _ he).1 (hready listed hsz hr _ hlt)
        omega
      · omega
    subst hka
    refine ⟨_, _, hP x, hh.incl fun p hp => ?_⟩
    rcases List.mem_append.1 hp with hp | hp
    · refine hk p ⟨hp, ?_⟩
      by_cases hd : p.1 ∈ dstsE L
      · obtain ⟨k, o, h1, h2⟩ := dstsE_get hd
        exact .inr ⟨k, o, h1, h2, hready listed hsz hr k (List.getElem?_eq_some_iff.1 h1).1⟩
      · exact .inl hd
    · exact hkE p hp
  intro fuel
  induction fuel with
  | zero =>
    intro listed k x a w tm hsz hc hk hkE hst hkl hdn hh
    have hr : Region.ready .any L.toArray listed = [] := by
      rw [List.eq_nil_iff_forall_not_mem]
      intro j hj
      obtain ⟨h1, o, h2, _⟩ := mem_ready.1 hj
      have hjl : j < listed.size := by rw [hsz]; simpa using (Array.getElem?_eq_some_iff.1 h2).1
      have : listed[j] = false := by simpa [Array.getD, hjl] using h1
      have hm : false ∈ listed.toList.filter (!·) := by
        rw [List.mem_filter]; exact ⟨by rw [← this]; simp, rfl⟩
      have := List.length_pos_of_mem hm
      omega
    exact ⟨hr, hdone listed k x a w tm hsz hk hkE hst hkl hh hr⟩
  | succ fuel ih =>
    intro listed k x a w tm hsz hc hk hkE hst hkl hdn hh
    refine ⟨hdone listed k x a w tm hsz hk hkE hst hkl hh, fun i hi => ?_⟩
    obtain ⟨h1, o, h2, h3⟩ := mem_ready.1 hi
    have hL : L[i]? = some o := by simpa using h2
    have hil : i < L.length := (List.getElem?_eq_some_iff.1 hL).1
    have his : i < listed.size := by omega
    have hfalse : listed[i] = false := by simpa [Array.getD, his] using h1
    have hfalse' : listed.getD i false = false := by simpa [Array.getD, his] using hfalse
    obtain ⟨hw, _⟩ := okR2_get hok i o hL
    have hon : ∀ j, j ∈ ons o.after.toList → listed.getD j false = true := by
      have key : ∀ l : List Edge, (∀ e ∈ l, e ∈ o.after) → ∀ j, j ∈ ons l → listed.getD j false = true := by
        intro l
        induction l with
        | nil => intro _ j h; simp [ons] at h
        | cons x l ih =>
          intro hl j h
          unfold ons at h
          split at h
          · rename_i hb
            rcases List.mem_cons.1 h with rfl | h
            · exact h3 x (hl x List.mem_cons_self) hb
            · exact ih (fun e he => hl e (List.mem_cons_of_mem _ he)) j h
          · exact ih (fun e he => hl e (List.mem_cons_of_mem _ he)) j h
      exact key _ (fun e he => by simpa using he)
    have hpre : Looked L tmF o tm := by
      intro p hp hl
      refine hk p ⟨hp, ?_⟩
      by_cases hd : p.1 ∈ dstsE L
      · obtain ⟨k, o', k1, k2⟩ := dstsE_get hd
        have := waitE_spec hw k o' p.1 k1 k2 hl
        exact .inr ⟨k, o', k1, k2, hon k (by simpa using this)⟩
      · exact .inl hd
    have hcount : ((listed.setIfInBounds i true).toList.filter (!·)).length ≤ fuel := by
      have h5 : ((listed.setIfInBounds i true).toList.filter (!·)).length + 1 = (listed.toList.filter (!·)).length := by
        rw [show (listed.setIfInBounds i true).toList = listed.toList.set i true by simp]
        exact count_set (by simp [his, hfalse])
      omega
    have hsz' : (listed.setIfInBounds i true).size = L.length := by simpa using hsz
    have other : ∀ k, k ≠ i → (listed.setIfInBounds i true).getD k false = listed.getD k false := fun k hk => getD_set_ne false (Ne.symm hk)
    have hself : (listed.setIfInBounds i true).getD i false = true := getD_set_self his
    have hdn' : ∀ j o, L[j]? = some o → (listed.setIfInBounds i true).getD j false = true → ∀ q ∈ ons o.after.toList, (listed.setIfInBounds i true).getD q false = true := by
      intro j o' ho' hj q hq
      have hq' : listed.getD q false = true := by
        by_cases hji : j = i
        · subst hji
          rw [hL] at ho'; injection ho' with ho'; subst ho'
          exact hon q hq
        · rw [other j hji] at hj
          exact hdn j o' ho' hj q hq
      by_cases hqi : q = i
      · rw [hqi]; exact hself
      · rw [other q hqi]; exact hq'
    unfold wpOp
    simp only [List.getElem?_toArray, hL]
    have fin : ∀ {K : Prop} {W : Prop} [Decidable W] {A B : Prop}, (if W then A else K) → (if W then A ∨ B else K) := by
      intro K W _ A B h
      split
      · rename_i hw; rw [if_pos hw] at h; exact .inl h
      · rename_i hw; rw [if_neg hw] at h; exact h
    refine fin ?_
    by_cases hiE : i ∈ E
    · -- a step of the chain
      obtain ⟨j, hj, hji⟩ := List.mem_iff_getElem.1 hiE
      have hEj : E[j]? = some i := by rw [List.getElem?_eq_getElem hj, hji]
      have hjk : j = k := by
        have g1 : ¬ j < k := fun h => by
          have := (hst j i hEj).2 h
          rw [hfalse'] at this; cases this
        rcases Nat.lt_trichotomy j k with h | h | h
        · exact absurd h g1
        · exact h
        · exfalso
          obtain ⟨j', rfl⟩ : ∃ j', j = j' + 1 := ⟨j - 1, by omega⟩
          obtain ⟨o', ho', hon'⟩ := hc1 j' _ _ (List.getElem?_eq_getElem (by omega)) hEj
          rw [hL] at ho'; injection ho' with ho'; subst ho'
          have := (hst j' _ (List.getElem?_eq_getElem (by omega))).1 (hon _ hon')
          omega
      subst hjk
      refine hEff j i o x hEj hL tm a w _ _ hpre hkE hh fun x' tm' a' w' g1 g2 h' => ?_
      refine ih _ (j + 1) x' a' w' tm' hsz' hcount (fun p hp => ?_) g2 (fun j' e' he' => ?_) (by omega) hdn' h'
      · obtain ⟨hp1, hp2⟩ := hp
        rcases hp2 with hp2 | ⟨q, o', q1, q2, q3⟩
        · exact g1 p hp1 (hk p ⟨hp1, .inl hp2⟩)
        · by_cases hqi : q = i
          · rw [hqi, hL] at q1; injection q1 with q1; subst q1
            exact g2 p (hdF p hp1 j i hEj o hL q2 x')
          · exact g1 p hp1 (hk p ⟨hp1, .inr ⟨q, o', q1, q2, by rwa [other q hqi] at q3⟩⟩)
      · by_cases he : e' = i
        · subst he
          have hjj : j' = j := by
            have hmono : ∀ p q (hp : p < E.length) (hq : q < E.length), p < q → E[p] < E[q] := by
              intro p q hp hq hpq
              induction q with
              | zero => omega
              | succ q ihq =>
                obtain ⟨o', ho', hon'⟩ := hc1 q _ _ (List.getElem?_eq_getElem (by omega)) (List.getElem?_eq_getElem hq)
                obtain ⟨_, h3⟩ := okR2_get hok _ o' ho'
                have hlt := allLt_spec h3 _ hon'
                by_cases hpq' : p = q
                · subst hpq'; omega
                · have := ihq (by omega) (by omega); omega
            obtain ⟨hj', hje'⟩ := List.getElem?_eq_some_iff.1 he'
            rcases Nat.lt_trichotomy j' j with h | h | h
            · have := hmono _ _ hj' hj h; omega
            · exact h
            · have := hmono _ _ hj hj' h; omega
          subst hjj
          simp [hself]
        · rw [other _ he]
          have := hst j' e' he'
          have hne : j' ≠ j := fun e => he (by subst e; rw [hEj] at he'; injection he' with he'; exact he'.symm)
          rw [this]; omega
    · obtain ⟨d, s, e1, e2, h⟩ := hV i o hL hiE
      refine h tm (MMx k x) hpre (hrun listed k hdn hst i hil hiE hfalse' x) a w _ _ hh fun a' w' h' => ih _ k x a' w' _ hsz' hcount (fun p hp => ?_) (fun p hp => ?_) (fun j' e' he' => ?_) hkl hdn' h'
      · obtain ⟨g1, g2⟩ := hp
        by_cases hpd : p.1 = d
        · have : p = (d, s) := keyF p g1 (d, s) e2 hpd
          rw [this]; exact List.mem_cons_self
        · refine List.mem_cons_of_mem _ (mem_delL (hk p ⟨g1, ?_⟩) hpd)
          rcases g2 with g2 | ⟨q, o', q1, q2, q3⟩
          · exact .inl g2
          · refine .inr ⟨q, o', q1, q2, ?_⟩
            have hqi : q ≠ i := by
              intro e; subst e
              rw [hL] at q1; injection q1 with q1; subst q1
              rw [e1] at q2; injection q2 with q2; exact hpd q2.symm
            rwa [other q hqi] at q3
      · refine List.mem_cons_of_mem _ (mem_delL (hkE p hp) fun e => ?_)
        obtain ⟨e', he', o', ho', hd'⟩ := hET k x p hp
        have hne : e' ≠ i := fun q => hiE (q ▸ he')
        rcases Nat.lt_trichotomy e' i with hlt | heq | hlt
        · exact okR2_free e1 hok _ _ hL hlt ho' (by rw [hd', e])
        · exact hne heq
        · exact okR2_free hd' hok _ _ ho' hlt hL (by rw [e1, e])
      · rw [other _ (fun q => hiE (by rw [← q]; exact List.mem_of_getElem? he'))]
        exact hst j' e' he'
theorem down_closed {E : List Nat} (hok : okR2 L [] L 0 = true) (hcl : closedL L (L.length - 1) = true) (hch : chainL L E = true) (hEl : E ≠ []) :
    ∀ listed, DownL L listed → ∀ e, E[E.length - 1]? = some e → listed.getD e false = true → ∀ i, i < L.length → i ∉ E → listed.getD i false = true := by
  intro listed hdn e he hle k hk _
  have hElen : 0 < E.length := List.length_pos_iff.2 hEl
  have hlast : listed.getD (L.length - 1) false = true := by
    have := (chainL_spec hch).2 _ e he (by omega)
    rw [show L.length - 1 = e by omega]; exact hle
  have key : ∀ m, ∀ k, k + m = L.length - 1 → listed.getD k false = true := by
    intro m
    induction m using Nat.strongRecOn with
    | _ m ih =>
      intro k hkm
      by_cases hm : m = 0
      · rw [show k = L.length - 1 by omega]; exact hlast
      · obtain ⟨o, ho, hon⟩ := closedL_spec hcl k (by omega)
        obtain ⟨j, hj, hjo⟩ := List.mem_iff_getElem.1 ho
        have hLj : L[j]? = some o := by rw [List.getElem?_eq_getElem hj, hjo]
        obtain ⟨_, h3⟩ := okR2_get hok j o hLj
        have hlt := allLt_spec h3 _ hon
        have := ih (L.length - 1 - j) (by omega) j (by omega)
        exact hdn j o hLj this k hon
  exact key (L.length - 1 - k) k (by omega)
structure FS (C : Ctx) (n : Nat) (mmf : Nat → MM) (L : List Oper) (tm0 : TM) (E : List Nat) (ahead l : List Oper) (i : Nat) (tm : TM) : Prop where
  ok : ∀ (j : Nat) (o : Oper), j < i → L[j]? = some o → j ∉ E → OkV C n (mmf j) L tm o
  keys : ∀ p ∈ tm, ∀ q ∈ tm, p.1 = q.1 → p = q
  base : ∀ p ∈ tm, p.1 ∉ dstsE L → p ∈ tm0
  okr : okR2 L ahead l i = true
  whole : L = ahead.reverse ++ l
  len : ahead.length = i
  kd : ∀ p ∈ tm, p ∈ tm0 ∨ ∃ j o, j ∉ E ∧ L[j]? = some o ∧ o.dst = some p.1
def FOps (C : Ctx) (n : Nat) (mmf : Nat → MM) (L : List Oper) (tm0 : TM) (E : List Nat) (i : Nat) (l : List Oper) (tm : TM) (T : TM → Prop) : Prop :=
  ∀ (ahead : List Oper), FS C n mmf L tm0 E ahead l i tm → ∃ tmF, T tmF ∧ FS C n mmf L tm0 E L.reverse [] L.length tmF
variable {E : List Nat} {T : TM → Prop} {mmf : Nat → MM}
theorem FOps.nil (h : T tm) : FOps C n mmf L tm0 E i [] tm T := fun ahead hs => by
  have hL : L = ahead.reverse := by have := hs.whole; rwa [List.append_nil] at this
  have hi : i = L.length := by rw [hL, List.length_reverse, hs.len]
  have ha : ahead = L.reverse := by rw [hL, List.reverse_reverse]
  subst hi
  rw [← ha] at *
  exact ⟨tm, h, ha ▸ hs⟩
theorem FS.cur {ahead : List Oper} (hs : FS C n mmf L tm0 E ahead (o :: l) i tm) : L[i]? = some o := by
  have h1 := hs.whole
  have h2 : ahead.reverse.length = i := by rw [List.length_reverse, hs.len]
  rw [h1, List.getElem?_append_right (by omega)]
  simp [h2]
theorem FS.before {ahead : List Oper} (hs : FS C n mmf L tm0 E ahead (o :: l) i tm) {o' : Oper} (hj : j < i) (h : L[j]? = some o') : o' ∈ ahead := by
  have h1 := hs.whole
  have h2 : ahead.reverse.length = i := by rw [List.length_reverse, hs.len]
  rw [h1, List.getElem?_append_left (by omega)] at h
  simpa using List.mem_of_getElem? h
theorem FS.next {ahead : List Oper} (hs : FS C n mmf L tm0 E ahead (o :: l) i tm) (hd : o.dst = some d) (hiE : i ∉ E) (hok : d ∉ looksE L o → OkV C n (mmf i) L ((d, s) :: delL tm d) o) :
    FS C n mmf L tm0 E (o :: ahead) l (i + 1) ((d, s) :: delL tm d) := by
  obtain ⟨h2, h3, h4, h5⟩ := okR2_cons hs.okr
  obtain ⟨h6, h7⟩ := h5 d hd
  have hin : o ∈ L := by rw [hs.whole]; simp
  refine ⟨fun j o' hj ho' hjE => ?_, keys_set hs.keys, fun p hp hn => ?_, h4, by rw [hs.whole]; simp, by simp [hs.len], fun p hp => ?_⟩
  · by_cases hji : j = i
    · subst hji
      rw [hs.cur] at ho'; injection ho' with ho'; subst ho'
      exact hok h7
    · have hjl : j < i := by omega
      obtain ⟨k1, k2⟩ := freeE2_spec h6 o' (hs.before hjl ho')
      exact (hs.ok j o' hjl ho' hjE).grow k1 k2
  · rcases List.mem_cons.1 hp with rfl | hp
    · exact absurd (dstsE_mem hin hd) hn
    · exact hs.base p (delL_mem hp).1 hn
  · rcases List.mem_cons.1 hp with rfl | hp
    · exact .inr ⟨i, o, hiE, hs.cur, hd⟩
    · exact hs.kd p (delL_mem hp).1
theorem FOps.eff (hiE : memN E i = true) (k : FOps C n mmf L tm0 E (i + 1) l tm T) : FOps C n mmf L tm0 E i (o :: l) tm T := fun ahead hs => by
  obtain ⟨h2, h3, h4, h5⟩ := okR2_cons hs.okr
  refine k _ ⟨fun j o' hj ho' hjE => ?_, hs.keys, hs.base, h4, by rw [hs.whole]; simp, by simp [hs.len], hs.kd⟩
  by_cases hji : j = i
  · subst hji; exact absurd (memN_iff.1 hiE) hjE
  · exact hs.ok j o' (by omega) ho' hjE
theorem not_memN {E : List Nat} {i : Nat} (h : memN E i = false) : i ∉ E := fun hk => by rw [memN_iff.2 hk] at h; cases h
theorem FOps.step (hiE : memN E i = false) (hg : guardL L (onlyE (looksE L o) tm) o = some true)
    (h : ∀ mm', (∀ q ∈ mmf i, q ∈ mm') → (∀ p ∈ mm', ∀ q ∈ mm', p.1 = q.1 → p = q) → OpX C n mm' o (onlyE (looksE L o) tm) d s) (hd : o.dst = some d)
    (k : FOps C n mmf L tm0 E (i + 1) l ((d, s) :: delL tm d) T) : FOps C n mmf L tm0 E i (o :: l) tm T := fun ahead hs =>
  k _ (hs.next hd (not_memN hiE) fun hl => ⟨d, s, hd, List.mem_cons_self, fun tm' mm' hL hb a w K Q hh hK => by
    have hL' : Looked L tm o tm' := hL.back hl
    rw [if_pos (guard_looked hg hL' hh)]
    exact (h mm' hb (has_uniq hh)).2 tm' (fun p hp => hL' p (onlyE_mem.1 hp).1 (onlyE_mem.1 hp).2) a w K Q hh hK⟩)
theorem FOps.skip (hiE : memN E i = false) (hg : guardL L (onlyE (looksE L o) tm) o = some false) (hd : o.dst = some d) (hn : Nat.blt d n = true)
    (k : FOps C n mmf L tm0 E (i + 1) l ((d, .tup []) :: delL tm d) T) : FOps C n mmf L tm0 E i (o :: l) tm T := fun ahead hs =>
  k _ (hs.next hd (not_memN hiE) fun hl => ⟨d, _, hd, List.mem_cons_self, fun tm' mm' hL hb a w K Q hh hK => by
    have hL' : Looked L tm o tm' := hL.back hl
    rw [if_neg (by rw [guard_looked hg hL' hh]; simp)]
    obtain ⟨H, Z, hm⟩ := hh
    rw [hd]
    exact hK _ _ ⟨H, Z, hm.setT (Nat.blt_eq.mp hn) ⟨#[], rfl, rfl, fun j c hc => by simp at hc⟩⟩⟩)
inductive OutF where
  | stop (i : Nat) (l : List Oper) (tm : TM)
def goF (Θ : Tab) (n : Nat) (mmf : Nat → MM) (L : List Oper) (E : List Nat) : Nat → List Oper → TM → OutF
  | i, [], tm => .stop i [] tm
  | i, o :: r, tm => match memN E i with
    | true => goF Θ n mmf L E (i + 1) r tm
    | false => match guardL L (onlyE (looksE L o) tm) o with
      | some true => match o.dst with
        | some d => match valE Θ (onlyE (looksE L o) tm) (mmf i) o.op with
          | some st => match setE n d st tm with
            | some tm' => goF Θ n mmf L E (i + 1) r tm'
            | none => .stop i (o :: r) tm
          | none => .stop i (o :: r) tm
        | none => .stop i (o :: r) tm
      | some false => match o.dst with
        | some d => match setE n d (.tup []) tm with
          | some tm' => goF Θ n mmf L E (i + 1) r tm'
          | none => .stop i (o :: r) tm
        | none => .stop i (o :: r) tm
      | none => .stop i (o :: r) tm
theorem goF_sound {Θ : Tab} (hΘ : tabOK C.P Θ) : ∀ {l : List Oper} {i : Nat} {tm : TM} {i' : Nat} {l' : List Oper} {tm' : TM},
    goF Θ n mmf L E i l tm = .stop i' l' tm' → FOps C n mmf L tm0 E i' l' tm' T → FOps C n mmf L tm0 E i l tm T
  | [], i, tm, i', l', tm', h, k => by
    simp only [goF, OutF.stop.injEq] at h
    obtain ⟨rfl, rfl, rfl⟩ := h
    exact k
  | o :: r, i, tm, i', l', tm', h, k => by
    have same : OutF.stop i (o :: r) tm = .stop i' l' tm' → FOps C n mmf L tm0 E i (o :: r) tm T := by
      intro e
      injection e with e1 e2 e3
      subst e1 e2 e3
      exact k
    unfold goF at h
    split at h
    · rename_i hE
      exact FOps.eff hE (goF_sound hΘ h k)
    · rename_i hE
      split at h
      · rename_i hg
        split at h
        · rename_i d hd
          split at h
          · rename_i st hv
            split at h
            · rename_i tm1 hs
              obtain ⟨hn, rfl⟩ := setE_eq hs
              exact FOps.step hE hg (fun mm' hb hu => (valE_sound hΘ (valE_monoM (mono_get hb hu) hv) hd hn).toX) hd (goF_sound hΘ h k)
            · exact same h
          · exact same h
        · exact same h
      · rename_i hg
        split at h
        · rename_i d hd
          split at h
          · rename_i tm1 hs
            obtain ⟨hn, rfl⟩ := setE_eq hs
            exact FOps.skip hE hg hd hn (goF_sound hΘ h k)
          · exact same h
        · exact same h
      · exact same h
def runF (Θ : Tab) (n : Nat) (mmf : Nat → MM) (L : List Oper) (E : List Nat) (i : Nat) (l : List Oper) (tm : TM) : Option OutF :=
  match nrmT tm with
  | some tm' => some (goF Θ n mmf L E i l tm')
  | none => none
theorem frun_ {Θ : Tab} (hΘ : tabOK C.P Θ) {i' : Nat} {l' : List Oper} {tm' : TM} (h : runF Θ n mmf L E i l tm = some (.stop i' l' tm')) (k : FOps C n mmf L tm0 E i' l' tm' T) : FOps C n mmf L tm0 E i l tm T := by
  unfold runF at h
  split at h
  · rename_i tm1 h1
    rw [← nrmT_eq h1]
    injection h with h
    exact goF_sound hΘ h k
  · cases h
def Effs {ι : Type} (C : Ctx) (n : Nat) (L : List Oper) (tmF : TM) (ET : Nat → ι → TM) (MMx : Nat → ι → MM) : Nat → List Nat → Prop
  | _, [] => True
  | k, e :: r => (∀ o, nthO L e = some o → ∀ x, EffOK C n L tmF ET MMx k x o) ∧ Effs C n L tmF ET MMx (k + 1) r
theorem Effs.get {ι : Type} {tmF : TM} {ET : Nat → ι → TM} {MMx : Nat → ι → MM} : ∀ {E : List Nat} {m : Nat}, Effs C n L tmF ET MMx m E → ∀ k e o x, E[k]? = some e → L[e]? = some o → EffOK C n L tmF ET MMx (m + k) x o
  | [], m, _, k, e, o, x, h, _ => by simp at h
  | e0 :: r, m, h, k, e, o, x, he, ho => by
    cases k with
    | zero => simp at he; subst he; exact h.1 o (by rw [nthO_get]; exact ho) x
    | succ k =>
      have := Effs.get h.2 k e o x (by simpa using he) ho
      rwa [show m + 1 + k = m + (k + 1) by omega] at this
def subE (E : List Nat) (L : List Oper) : TM → Bool
  | [] => true
  | (t, _) :: r => match E.any (fun e => match nthO L e with | some o => (match o.dst with | some d => Nat.beq d t | none => false) | none => false) with
    | true => subE E L r
    | false => false
theorem subE_spec : ∀ {l : TM}, subE E L l = true → ∀ p ∈ l, ∃ e ∈ E, ∃ o, L[e]? = some o ∧ o.dst = some p.1
  | [], _, p, hp => by cases hp
  | (t, s) :: r, h, p, hp => by
    unfold subE at h
    split at h
    · rename_i ha
      rcases List.mem_cons.1 hp with rfl | hp
      · obtain ⟨e, he, h2⟩ := List.any_eq_true.1 ha
        split at h2
        · rename_i o ho
          split at h2
          · rename_i d hd
            exact ⟨e, he, o, by rw [← nthO_get]; exact ho, by rw [hd, Nat.eq_of_beq_eq_true h2]⟩
          · cases h2
        · cases h2
      · exact subE_spec h p hp
    · cases h
theorem g_drawFm {ι : Type} (mmf : Nat → MM) (E : List Nat) (ET : Nat → ι → TM) (MMx : Nat → ι → MM) (x0 : ι) {mm : MM} {f : FuncId} {Rr : Ending → World → Prop} {k : List Item} {id : Nat} (hmix : C.P.follows .mixedOrders = true)
    (hm0 : MMx 0 x0 = mm) (hE0 : ET 0 x0 = []) (hET : ∀ k x, subE E L (ET k x) = true)
    (hok : okR2 L [] L 0 = true) (hu : uniT (dstsE L) (cutT (dstsE L) tm) = true) (hEl : E ≠ []) (hch : chainL L E = true)
    (hrun : ∀ (listed : Array Bool) (k : Nat), DownL L listed → (∀ j e, E[j]? = some e → (listed.getD e false = true ↔ j < k)) → ∀ i, i < L.length → i ∉ E → listed.getD i false = false → ∀ x, ∀ q ∈ mmf i, q ∈ MMx k x)
    (h : FOps C n mmf L (cutT (dstsE L) tm) E 0 L (cutT (dstsE L) tm) fun tmF => Effs C n L tmF ET MMx 0 E ∧ ∀ x, Goes C f n Rr k (tmF ++ ET E.length x) (MMx E.length x)) :
    Goes C f n Rr (.code (.region id L.toArray true) :: k) tm mm := by
  refine Goes.mono (tm' := cutT (dstsE L) tm) (mm' := mm) ?_ (fun _ _ hh => hh.incl fun _ hp => cutT_mem hp)
  obtain ⟨u1, u2⟩ := uniT_spec hu
  intro a w hh b cs hb hk
  obtain ⟨tmF, ⟨hEff, hg⟩, hF⟩ := h [] ⟨fun j o hj => (by omega), u2, fun p hp _ => hp, hok, rfl, rfl, fun p hp => .inl hp⟩
  have hnone : ∀ k, (Array.replicate L.length false).getD k false = false := fun k => by
    by_cases hk : k < L.length
    · simp [Array.getD, hk]
    · simp [Array.getD, hk]
  have hany := any_okF (P := fun tm' mm' => Goes C f n Rr k tm' mm') (mmf := mmf) hrun hok (fun i o ho hi => hF.ok i o (List.getElem?_eq_some_iff.1 ho).1 ho hi) hF.keys hEl hch
    (fun p hp k0 e hke o ho hd => by
      have he := List.mem_of_getElem? hke
      exfalso
      rcases hF.kd p hp with hn | ⟨j, o', hj, ho', hd'⟩
      · exact u1 p hn (dstsE_mem (List.mem_of_getElem? ho) hd)
      · rcases Nat.lt_trichotomy j e with hlt | heq | hlt
        · exact absurd hd' (okR2_free hd hok _ _ ho hlt ho')
        · subst heq; exact hj he
        · exact absurd hd (okR2_free hd' hok _ _ ho' hlt ho))
    (fun k x => subE_spec (hET k x)) (fun k e o x he ho => by have := hEff.get k e o x he ho; rwa [Nat.zero_add] at this) hg L.length (Array.replicate L.length false) 0 x0 a { w with drawn := w.drawn + 1 } (cutT (dstsE L) tm) (by simp)
    (by rw [show (Array.replicate L.length false).toList = List.replicate L.length false by simp]; exact Nat.le_trans (List.length_filter_le _ _) (by simp))
    (fun p hp => by
      obtain ⟨g1, g2 | ⟨k, o, k1, k2, k3⟩⟩ := hp
      · exact hF.base p g1 g2
      · rw [hnone k] at k3; cases k3)
    (fun p hp => by rw [hE0] at hp; cases hp)
    (fun j e _ => by rw [hnone e]; simp) (Nat.zero_le _) (fun j o _ hj => by rw [hnone j] at hj; cases hj) (by rw [hm0]; exact hh.drawn)
  have hwp := wp_region_any (id := id) (Q := QT C n (fun tm' mm' => Goes C f n Rr k tm' mm')) (ops := L.toArray) (a := a) (w := w) hmix (by simpa using hany)
  obtain ⟨e, a', w', hq, harr⟩ := hwp b k cs
  cases e with
  | normal =>
    obtain ⟨tm', mm', hg, hh'⟩ := hq
    obtain ⟨e, w'', fr, g1, g2, g3⟩ := hg a' w' hh' b cs hb hk
    exact ⟨e, w'', fr, g1, Comes.of_steps harr g2, g3⟩
  | _ => exact hq.elim
def keyT' (d : Nat) : TM → Bool
  | [] => true
  | (t, _) :: r => match Nat.beq t d with
    | true => false
    | false => keyT' d r
def StatE {ι : Type} (L : List Oper) (tmF : TM) (ET : Nat → ι → TM) : Nat → List Nat → Prop
  | _, [] => True
  | k, e :: r => (∀ o d, nthO L e = some o → o.dst = some d → keyT' d tmF = true ∨ ∃ s, getT tmF d = some s ∧ ∀ x, (d, s) ∈ ET (k + 1) x) ∧ StatE L tmF ET (k + 1) r
theorem StatE.get {ι : Type} {tmF : TM} {ET : Nat → ι → TM} : ∀ {E : List Nat} {m : Nat}, StatE L tmF ET m E → ∀ k e o d, E[k]? = some e → L[e]? = some o → o.dst = some d → keyT' d tmF = true ∨ ∃ s, getT tmF d = some s ∧ ∀ x, (d, s) ∈ ET (m + k + 1) x
  | [], m, _, k, e, o, d, h, _, _ => by simp at h
  | e0 :: r, m, h, k, e, o, d, he, ho, hd => by
    cases k with
    | zero => simp at he; subst he; exact h.1 o d (by rw [nthO_get]; exact ho) hd
    | succ k =>
      have := StatE.get h.2 k e o d (by simpa using he) ho hd
      rwa [show m + 1 + k = m + (k + 1) by omega] at this
theorem g_drawF {ι : Type} (E : List Nat) (ids : List Nat) (ET : Nat → ι → TM) (MMx : Nat → ι → MM) (x0 : ι) {mm : MM} {f : FuncId} {Rr : Ending → World → Prop} {k : List Item} {id : Nat} (hmix : C.P.follows .mixedOrders = true)
    (hm0 : MMx 0 x0 = mm) (hbase : ∀ k x, k < E.length → ∀ q ∈ outM ids mm, q ∈ MMx k x) (hE0 : ET 0 x0 = []) (hET : ∀ k x, subE E L (ET k x) = true)
    (hok : okR2 L [] L 0 = true) (hu : uniT (dstsE L) (cutT (dstsE L) tm) = true) (hEl : E ≠ []) (hcl : closedL L (L.length - 1) = true) (hch : chainL L E = true)
    (h : FOps C n (fun _ => outM ids mm) L (cutT (dstsE L) tm) E 0 L (cutT (dstsE L) tm) fun tmF => Effs C n L tmF ET MMx 0 E ∧ ∀ x, Goes C f n Rr k (tmF ++ ET E.length x) (MMx E.length x)) :
    Goes C f n Rr (.code (.region id L.toArray true) :: k) tm mm := by
  have hE := List.length_pos_iff.2 hEl
  refine g_drawFm (fun _ => outM ids mm) E ET MMx x0 hmix hm0 hE0 hET hok hu hEl hch (fun listed k hdn hst i hi hiE hf x => hbase k x ?_) h
  rcases Nat.lt_or_ge k E.length with hk | hk
  · exact hk
  · exfalso
    have he : E[E.length - 1]? = some E[E.length - 1] := List.getElem?_eq_getElem (by omega)
    have := down_closed hok hcl hch hEl listed hdn _ he ((hst _ _ he).2 (by omega)) i hi hiE
    rw [hf] at this; cases this
end
end Go.Sy
namespace Go.Sy
open Go.RowKit
section
variable {C : Ctx} {n : Nat} {tm tm' : TM} {mm : MM} {o : Oper} {d : Nat}
theorem splice_take {l cs : List Value} {off N : Nat} (h : off + cs.length ≤ N) (hN : N ≤ l.length) :
    (l.take off ++ cs ++ l.drop (off + cs.length)).take N = (l.take N).take off ++ cs ++ (l.take N).drop (off + cs.length) := by
  rw [List.append_assoc, List.take_append, List.length_take, Nat.min_eq_left (by omega), List.take_append, List.take_take, List.take_take, Nat.min_eq_right (by omega), Nat.min_eq_left (by omega), List.take_of_length_le (show cs.length ≤ N - off by omega), List.append_assoc]
  congr 2
  rw [List.drop_take]
  congr 1; omega
theorem op_pstore {Θ : Tab} (hΘ : tabOK C.P Θ) {t : TypeId} {ti : TyI} {x y : Operand} {i k j e sz : Nat} {qs : PQ} {v : Value} {xs : List (List CT)} {s : SV} {cs : List CT}
    (ho : o.op = .store t x y) (ht : tyGet Θ t = some ti) (hx : evalC tm x = some (.c (.val (ptrV v (j * sz))))) (hi : getM mm i = some (.pool e sz qs)) (hk : qs[k]? = some (v, xs)) (hj : j < xs.length)
    (hy : evalV tm y = some s) (hc : ctsOf s.cells = some cs) (hsz : Nat.beq cs.length ti.size = true) (hts : Nat.beq ti.size sz = true) (hkn : s.cells.all SC.known = true) (hig : Nat.blt i given = true) (hno : noUse i mm = true) (hd : o.dst = none) :
    OpR C n o tm mm (dropU i tm) (updM mm i (.pool e sz (qs.set k (v, xs.set j cs)))) := by
  intro a w ⟨H, Z, hm⟩
  obtain ⟨inf, de, hf⟩ := tyF hΘ ht
  obtain ⟨hH, hpool⟩ := hm.mem _ (getM_mem hi)
  have hpool : PoolOK w (Mof C H mm) e sz qs := hpool
  obtain ⟨us, hown, hlen, hrep⟩ := hpool.row hk
  have hx' := RepC.val_inv (evalC_rep hm hx)
  have htsE : ti.size = sz := Nat.eq_of_beq_eq_true hts
  have hcl : cs.length = sz := by rw [← htsE]; exact Nat.eq_of_beq_eq_true hsz
  obtain ⟨c1, c2⟩ := (evalV_rep hm hy).cells hm hkn
  have hcp : Pw (fun u c => RepC w (Mof C H mm) u c) (a.eval y).cells.toList cs :=
    ctsOf_pw hc ⟨by simpa using c1, fun j c hc => let ⟨u, hu, _, hr⟩ := c2 j c hc; ⟨u, by simpa using hu, hr⟩⟩
  have hone : ∀ v ∈ (a.eval y).cells.toList, v.oneCell' = true := by
    intro v hv
    obtain ⟨j, hj, hjv⟩ := List.mem_iff_getElem.1 hv
    have hjl : j < cs.length := by rw [← hcp.1]; exact hj
    obtain ⟨u, hu, hr⟩ := hcp.2 j cs[j] (List.getElem?_eq_getElem hjl)
    rw [List.getElem?_eq_getElem hj, hjv] at hu
    injection hu with hu
    rw [hu]; exact hr.one
  have hcsl : (a.eval y).cells.toList.length = sz := by rw [hcp.1, hcl]
  rcases hown.2 with ⟨_, h0⟩ | ⟨g, cap, cur, hv, hg0, hheap, hcap, hmax, hcur, htake⟩
  · omega
  subst hv
  simp only [ptrV, add_mk, Nat.zero_add] at hx'
  have hjs : j * sz + sz ≤ xs.length * sz := by
    have := Nat.mul_le_mul_right sz (show j + 1 ≤ xs.length from hj)
    rw [Nat.add_mul] at this; omega
  have hcaps : xs.length * sz ≤ cap * sz := Nat.mul_le_mul_right _ hcap
  have hrun := run_storeCells_at (P := C.P) g (j * sz) e (a.eval y).cells.toList 0 cur w hheap (by rw [hcsl, hcur]; omega) hone
  have hsize : (a.eval y).cells.size = ti.size := by rw [htsE, ← hcsl]; simp
  have hrow := setRow_heap w g cur (cur.toList.take (j * sz + 0) ++ (a.eval y).cells.toList ++ cur.toList.drop (j * sz + 0 + (a.eval y).cells.toList.length)).toArray e (0, 0) hheap
  have hext := setRow_ext w g (cur.toList.take (j * sz + 0) ++ (a.eval y).cells.toList ++ cur.toList.drop (j * sz + 0 + (a.eval y).cells.toList.length)).toArray
  generalize hw' : w.setRow g (cur.toList.take (j * sz + 0) ++ (a.eval y).cells.toList ++ cur.toList.drop (j * sz + 0 + (a.eval y).cells.toList.length)).toArray = w' at hrow hext hrun
  have hvmem : (Value.slice (some ⟨g, 0, none⟩) xs.length cap, xs) ∈ qs := List.mem_of_getElem? hk
  have hus : us = cur.toList.take (xs.length * sz) := htake.symm
  have hcurl : cur.toList.length = cap * sz := by simpa using hcur
  refine .inr ⟨w', ?_, Sy.upd H i (poolV (qs.set k (.slice (some ⟨g, 0, none⟩) xs.length cap, xs.set j cs))), Z, ?_⟩
  · simp only [execOp, ho, hx', Instr.storeAt, Instr.sureAddr, storeVar, Sem.run_bind, Sem.run_pure, Result.andThen_ok, hf.sizeOf, hsize, ne_eq, not_true, if_false, hrun]
  · rw [hd]
    refine hm.setPool hi (Nat.blt_eq.mp hig) hno (hext.weak fun b _ hb => ⟨_, hvmem, by rw [hb]; rfl⟩) (by simpa [Act.put] using hm.defers) (by simp [Act.put, hm.size]) ?_ ?_ ?_
    · intro q hq b hqb
      rcases List.mem_or_eq_of_mem_set hq with hq | rfl
      · exact .inl ⟨q, hq, hqb⟩
      · exact .inl ⟨_, hvmem, hqb⟩
    · intro M' hMM hfr
      refine hpool.set hk ⟨us.take (j * sz) ++ (a.eval y).cells.toList ++ us.drop (j * sz + sz), ⟨?_, .inr ⟨g, cap, _, by simp, hg0, hrow, by simpa using hcap, hmax, ?_, ?_⟩⟩, fun q hq => ?_, fun l q hq m ct hct => ?_⟩ hext.size
        (fun b hb hne => hext.block b hb (fun e => hne (by rw [e]; rfl))) hfr hMM (fun b hb => .inl hb)
      · have hul := hown.1
        rw [List.length_append, List.length_append, List.length_take, List.length_drop, hcsl, hul, List.length_set]; omega
      · rw [List.size_toArray, List.length_append, List.length_append, List.length_take, List.length_drop, hcsl, hcurl]; omega
      · simp only [List.length_set, Nat.add_zero]
        rw [splice_take (by rw [hcsl]; omega) (by omega), htake, hcsl]
      · rcases List.mem_or_eq_of_mem_set hq with hq | rfl
        · exact hlen q hq
        · exact hcl
      · have hul : us.length = xs.length * sz := hown.1
        rw [List.getElem?_set] at hq
        have hlsz : ∀ {q : List CT}, q.length = sz → q[m]? = some ct → m < sz := fun h1 h2 => by rw [← h1]; exact (List.getElem?_eq_some_iff.1 h2).1
        split at hq
        · rename_i hjl; subst hjl
          injection hq with hq; subst hq
          have hm' := hlsz hcl hct
          obtain ⟨u, hu, hr⟩ := hcp.2 m ct hct
          refine ⟨u, ?_, RepC.mono hr hext.size hfr hMM⟩
          rw [List.getElem?_append_left (by rw [List.length_append, List.length_take, hcsl, hul]; omega), List.getElem?_append_right (by rw [List.length_take, hul]; omega)]
          rw [← hu]; congr 1; rw [List.length_take, hul]; omega
        · rename_i hjl
          have hl : l < xs.length := (List.getElem?_eq_some_iff.1 hq).1
          have hm' := hlsz (hlen q (List.mem_of_getElem? hq)) hct
          obtain ⟨u, hu, hr⟩ := hrep l q hq m ct hct
          refine ⟨u, ?_, RepC.mono hr hext.size hfr hMM⟩
          rcases Nat.lt_or_ge l j with hlt | hge
          · have hle : l * sz + sz ≤ j * sz := by
              have := Nat.mul_le_mul_right sz (show l + 1 ≤ j from hlt)
              rw [Nat.add_mul] at this; omega
            rw [List.append_assoc, List.getElem?_append_left (by rw [List.length_take, hul]; omega), List.getElem?_take, if_pos (by omega)]
            exact hu
          · have hle : j * sz + sz ≤ l * sz := by
              have := Nat.mul_le_mul_right sz (show j + 1 ≤ l by omega)
              rw [Nat.add_mul] at this; omega
            rw [List.getElem?_append_right (by rw [List.length_append, List.length_take, hcsl, hul]; omega), List.getElem?_drop]
            rw [← hu]; congr 1; rw [List.length_append, List.length_take, hcsl, hul]; omega
    · intro p hp
      obtain ⟨h1, h2⟩ := dropU_mem hp
      exact .inl ⟨p, h1, rfl, rfl, h2⟩
def noUseT (i : Nat) : TM → Bool
  | [] => true
  | (_, s) :: r => match memN s.uses i with
    | true => false
    | false => noUseT i r
theorem noUseT_spec {i : Nat} : ∀ {l : TM}, noUseT i l = true → ∀ p ∈ l, i ∉ p.2.uses
  | [], _, p, hp => by cases hp
  | (t, s) :: r, h, p, hp => by
    unfold noUseT at h
    split at h
    · cases h
    · rename_i hm
      rcases List.mem_cons.1 hp with rfl | hp
      · exact fun hk => by rw [memN_iff.2 hk] at hm; cases hm
      · exact noUseT_spec h p hp
theorem Has.newPool {a : Act} {w : World} (j e sz : Nat) (hj : Nat.blt j given = true) (hf : hasI mm j = false) (h : Has C n tm mm a w) : Has C n tm ((j, .pool e sz []) :: mm) a w := by
  obtain ⟨H, Z, hm⟩ := h
  have hni := hasI_false hf
  have hne : ∀ q, Iof mm q → q ≠ j := fun q hq e => hni (e ▸ hq)
  have hin : ∀ p ∈ mm, p.1 ≠ j := fun p hp => hne p.1 ⟨p, hp, rfl⟩
  have hI : ∀ q, Iof mm q → Iof ((j, .pool e sz []) :: mm) q := fun q ⟨p, hp, e⟩ => ⟨p, List.mem_cons_of_mem _ hp, e⟩
  have h0 : ∀ b, ¬ Hb (poolV []) b := fun b hb => by obtain ⟨q, hq, _⟩ := poolV_Hb.1 hb; cases hq
  refine ⟨Sy.upd H j (poolV []), Z, hm.build (fun _ => False) (Ext.refl _ _) (fun _ _ h => h.elim) hm.defers hm.size ?_ ?_ ?_ ?_ ?_⟩
  · intro p hp hpg
    rcases List.mem_cons.1 hp with rfl | hp
    · have := Nat.blt_eq.mp hj; simp only at hpg; omega
    · rw [upd_ne _ _ (hin p hp)]; exact hm.hg p hp hpg
  · intro p hp q hq he
    rcases List.mem_cons.1 hp with rfl | hp <;> rcases List.mem_cons.1 hq with rfl | hq
    · rfl
    · exact absurd he.symm (hin q hq)
    · exact absurd he (hin p hp)
    · exact hm.ids p hp q hq he
  · intro p hp
    rcases List.mem_cons.1 hp with rfl | hp
    · refine .inr ⟨fun b hb => by rw [upd_self] at hb; exact absurd hb (h0 b), fun _ _ => ⟨by rw [upd_self]; rfl, fun k q hq => by simp at hq, fun k l q r hq => by simp at hq⟩⟩
    · exact .inl ⟨hp, upd_ne _ _ (hin p hp), rfl, fun _ _ hx => hx, fun q _ hq => ⟨hI q hq, upd_ne _ _ (hne q hq), rfl⟩⟩
  · intro p hp q hq hpq b hpb hqb
    rcases List.mem_cons.1 hp with rfl | hp <;> rcases List.mem_cons.1 hq with rfl | hq
    · exact hpq rfl
    · rw [upd_self] at hpb; exact h0 b hpb
    · rw [upd_self] at hqb; exact h0 b hqb
    · rw [upd_ne _ _ (hin p hp)] at hpb
      rw [upd_ne _ _ (hin q hq)] at hqb
      exact hm.sep p hp q hq hpq b hpb hqb
  · intro p hp
    exact .inl ⟨p, hp, rfl, rfl, fun q _ hq => ⟨hI q hq, upd_ne _ _ (hne q hq), rfl⟩⟩
theorem Has.nilPool {a : Act} {w : World} {i e sz : Nat} {qs : PQ} (hi : getM mm i = some (.pool e sz qs)) (hig : Nat.blt i given = true) (hno : noUse i mm = true) (hnt : noUseT i tm = true) (h : Has C n tm mm a w) :
    Has C n tm (updM mm i (.pool e sz (qs ++ [(.slice none 0 0, [])]))) a w := by
  obtain ⟨H, Z, hm⟩ := h
  refine ⟨_, _, hm.setPool (Z := Z) hi (Nat.blt_eq.mp hig) hno (Ext.refl _ _) hm.defers hm.size (fun q hq b hqb => ?_) (fun M' hMM hfr => ?_) (fun p hp => .inl ⟨p, hp, rfl, rfl, noUseT_spec hnt p hp⟩)⟩
  · rcases List.mem_append.1 hq with hq | hq
    · exact .inl ⟨q, hq, hqb⟩
    · simp at hq; subst hq; cases hqb
  · obtain ⟨_, hpool⟩ := hm.mem _ (getM_mem hi)
    have hpool : PoolOK w (Mof C H mm) e sz qs := hpool
    refine ⟨fun k q hq => ?_, fun k l q r hq hr hkl b hqb hrb => ?_⟩
    · rw [List.getElem?_append] at hq
      split at hq
      · exact RowOK.mono (v := q.1) (xs := q.2) (hpool.1 k q hq) (fun _ _ => rfl) (Nat.le_refl _) (fun _ _ _ => rfl) hMM
      · have : q = (.slice none 0 0, []) := by
          have := List.mem_of_getElem? hq; simpa using this
        subst this
        exact RowOK.nil w M' e sz
    · rw [List.getElem?_append] at hq hr
      split at hq
      · split at hr
        · exact hpool.2 k l q r hq hr hkl b hqb hrb
        · have : r = (.slice none 0 0, []) := by
            have := List.mem_of_getElem? hr; simpa using this
          subst this; cases hrb
      · have : q = (.slice none 0 0, []) := by
          have := List.mem_of_getElem? hq; simpa using this
        subst this; cases hqb
theorem Has.nilVal {i j : Nat} {cs : List SC} (hi : getM mm i = some (.box cs)) (hj : nthC cs j = some (.c .nils)) {a : Act} {w : World} (h : Has C n tm mm a w) :
    Has C n tm (updM mm i (.box (setL cs j (.c (.val (.slice none 0 0)))))) a w := by
  obtain ⟨H, Z, hm⟩ := h
  obtain ⟨b, ty, vs, h1, h2, h3, h4⟩ := hm.mem _ (getM_mem hi)
  have hmem0 := getM_mem hi
  refine ⟨H, Z, hm.upd (b0 := b) ⟨_, hmem0, rfl⟩ (by rw [show H i = _ from h1]; rfl) (Ext.refl _ _) hm.defers hm.size ?_ (fun q hq => ⟨hq, rfl⟩)⟩
  intro hMM hfr
  refine ⟨b, ty, vs, h1, h2, by rw [h3, setL_eq]; simp, fun k c hc => ?_⟩
  rw [setL_eq, List.getElem?_set] at hc
  have hI : ∀ j, Iof mm j → Iof (updM mm i (.box (setL cs j (.c (.val (.slice none 0 0)))))) j := fun j hj => (updM_ids j).2 hj
  split at hc
  · rename_i hjk; subst hjk
    split at hc
    · injection hc with hc; subst hc
      rw [nthC_eq] at hj
      obtain ⟨u, hu, ho, hr⟩ := h4 j _ hj
      have : u = .slice none 0 0 := RepC.nils_inv hr
      subst this
      exact ⟨_, hu, ho, RepC.val _ rfl⟩
    · cases hc
  · obtain ⟨u, hu, ho, hr⟩ := h4 k c hc
    exact ⟨u, hu, ho, hr.mono (fun q _ hq => ⟨(updM_ids q).2 hq, rfl, rfl⟩) (Nat.le_refl _) (fun _ _ _ => rfl) hMM⟩
theorem Has.dropPool {a : Act} {w : World} (h : Has C n tm mm a w) {i j e sz : Nat} {qs : PQ} {o o' : MO} (hij : Nat.beq i j = false) (hi : getM mm i = some (.pool e sz qs)) (hig : Nat.blt i given = true) (hj : getM mm j = some o)
    (hno : noUse i mm = true) (hnt : noUseT i tm = true)
    (hkeep : ∀ (I I' : Nat → Prop) (H : Nat → Value) (Z : Nat → Nat) (w : World) (M M' : Nat → Prop), (∀ q ∈ o.uses, I q → I' q) → (∀ b, b < w.heap.size → M' b → M b) → PoolOK w M e sz qs → (∀ q ∈ qs, ∀ b, hblk q.1 = some b → ¬ M' b) → MemOK I H Z w M j o → MemOK I' H Z w M' j o') :
    Has C n tm (updM (outM [i] mm) j o') a w := by
  obtain ⟨H, Z, hm⟩ := h
  have hne : i ≠ j := fun e => by subst e; simp at hij
  obtain ⟨hH, hpool⟩ := hm.mem _ (getM_mem hi)
  have hH : H i = poolV qs := hH
  have hpool : PoolOK w (Mof C H mm) e sz qs := hpool
  have hsubm : ∀ p ∈ updM (outM [i] mm) j o', (p = (j, o') ∨ (p ∈ mm ∧ p.1 ≠ j)) ∧ p.1 ≠ i := by
    intro p hp
    rcases updM_mem p hp with ⟨rfl, _⟩ | ⟨k1, k2⟩
    · exact ⟨.inl rfl, Ne.symm hne⟩
    · obtain ⟨g1, g2⟩ := outM_mem.1 k1
      exact ⟨.inr ⟨g1, k2⟩, by simpa using g2⟩
  have hIds : ∀ q, q ≠ i → Iof mm q → Iof (updM (outM [i] mm) j o') q := fun q hq ⟨p, hp, e⟩ => (updM_ids q).2 ⟨p, outM_mem.2 ⟨hp, by simpa [e] using hq⟩, e⟩
  have hold : ∀ p ∈ updM (outM [i] mm) j o', ∃ q ∈ mm, q.1 = p.1 := by
    intro p hp
    rcases (hsubm p hp).1 with rfl | ⟨k1, _⟩
    · exact ⟨_, getM_mem hj, rfl⟩
    · exact ⟨p, k1, rfl⟩
  have hM : ∀ b, b < w.heap.size → Mof C H (updM (outM [i] mm) j o') b → Mof C H mm b := by
    rintro b _ (hb | ⟨p, hp, hpb⟩)
    · exact .inl hb
    · obtain ⟨q, hq, e⟩ := hold p hp
      exact .inr ⟨q, hq, by rw [e]; exact hpb⟩
  have hnM : ∀ q ∈ qs, ∀ b, hblk q.1 = some b → ¬ Mof C H (updM (outM [i] mm) j o') b := by
    rintro q hq b hqb (hb | ⟨p, hp, hpb⟩)
    · have hf := hm.fresh _ (getM_mem hi) b (by rw [show H (i, _).1 = _ from hH]; exact poolV_Hb.2 ⟨q, hq, hqb⟩)
      have := hm.m0 b hb
      have := Nat.blt_eq.mp hig
      rcases hf.1 with ⟨_, h2 | h2⟩ | ⟨h1, _⟩
      · omega
      · exact (C.hV b h2).2 hb
      · simp only at h1; omega
    · obtain ⟨r, hr, e⟩ := hold p hp
      rw [← e] at hpb
      exact hm.sep r hr _ (getM_mem hi) (by rw [e]; exact (hsubm p hp).2) b hpb (by rw [show H (i, _).1 = _ from hH]; exact poolV_Hb.2 ⟨q, hq, hqb⟩)
  refine ⟨H, Z, hm.defers, hm.size, hm.nle, ?_, hm.ext, hm.m0, ?_, ?_, ?_, ?_, ?_⟩
  · intro p hp hpg
    obtain ⟨q, hq, e⟩ := hold p hp
    rw [← e] at hpg ⊢
    exact hm.hg q hq hpg
  · intro p hp q hq he
    rcases (hsubm p hp).1 with rfl | ⟨k1, k2⟩ <;> rcases (hsubm q hq).1 with rfl | ⟨k1', k2'⟩
    · rfl
    · exact absurd he.symm k2'
    · exact absurd he k2
    · exact hm.ids p k1 q k1' he
  · intro p hp
    obtain ⟨h1, h2⟩ := hsubm p hp
    rcases h1 with rfl | ⟨k1, k2⟩
    · exact hkeep _ _ H Z w _ _ (fun q hq hIq => hIds q (fun e => noUse_spec hno (getM_mem hj) (e ▸ hq)) hIq) hM hpool hnM (hm.mem _ (getM_mem hj))
    · exact (hm.mem p k1).mono ⟨rfl, rfl⟩ (fun _ _ => rfl) (fun q hq hIq => ⟨hIds q (fun e => noUse_spec hno k1 (e ▸ hq)) hIq, rfl, rfl⟩) (Nat.le_refl _) (fun _ _ _ => rfl) hM
  · intro p hp b hb
    obtain ⟨q, hq, e⟩ := hold p hp
    rw [← e] at hb ⊢
    exact hm.fresh q hq b hb
  · intro p hp q hq hpq b hpb
    obtain ⟨p', hp', e1⟩ := hold p hp
    obtain ⟨q', hq', e2⟩ := hold q hq
    rw [← e1] at hpb
    rw [← e2]
    exact hm.sep p' hp' q' hq' (by rw [e1, e2]; exact hpq) b hpb
  · intro p hp
    exact (hm.tmps p hp).mono (fun q hq hIq => ⟨hIds q (fun e => noUseT_spec hnt p hp (e ▸ hq)) hIq, rfl, rfl⟩) (Nat.le_refl _) (fun _ _ _ => rfl) hM
end
end Go.Sy
