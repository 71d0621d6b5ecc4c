/- Layer: a region that draws its order, of which some operations make objects and the last waits for all others. -/
import Derived.Test.YthjpcefjgmklfaaDoorQg
set_option linter.unusedSimpArgs false
set_option linter.unusedVariables false
set_option linter.unusedSectionVars false
namespace Go.Sy
open Go.RowKit

section
variable {C : Ctx} {n : Nat} {mm0 : MM} {L : List Oper} {z : Oper}
abbrev MKs := List (Nat × (Nat × MO))

/-- What an operation of such a region does, wherever it comes up. -/
structure OkM (C : Ctx) (n : Nat) (mm0 : MM) (L : List Oper) (tmF : TM) (MK : MKs) (i : Nat) (o : Oper) (d : Nat) (s : ST) (add : MM) : Prop where
  dst : o.dst = some d
  tin : (d, s) ∈ tmF
  made : ∀ q, (i, q) ∈ MK ↔ q ∈ add
  ok : ∀ tm' mm', Looked L tmF o tm' → (∀ q ∈ mm0, q ∈ mm') → (∀ j q, (j, q) ∈ MK → j ∈ ons o.after.toList → q ∈ mm') → (∀ q ∈ add, ∀ r ∈ mm', r.1 ≠ q.1) →
    ∀ (a : Act) (w : World) (K : Act → World → Prop) (Q : Exit → Act → World → Prop), Has C n tm' mm' a w →
      (∀ a' w', Has C n ((d, s) :: delL tm' d) (add ++ mm') a' w' → K a' w') →
      if Region.wanted o (yielded L.toArray a.tmps) then o.wp C.P a w K Q else K (a.put o.dst undef) w

theorem any_lastM {tmF : TM} {MK : MKs} (hok : okR L [] L 0 = true) (hF : ∀ i o, L[i]? = some o → ∃ d s add, OkM C n mm0 L tmF MK i o d s add) (keyF : ∀ p ∈ tmF, ∀ q ∈ tmF, p.1 = q.1 → p = q)
    (hMd : ∀ p ∈ MK, ∀ q ∈ MK, p.2.1 = q.2.1 → p = q) (hM0 : ∀ p ∈ MK, ∀ q ∈ mm0, q.1 ≠ p.2.1) (hMl : ∀ p ∈ MK, p.1 < L.length) (hokT : okT (MK.map (·.2) ++ mm0) tmF = true) (hokM : okM (MK.map (·.2) ++ mm0) (MK.map (·.2) ++ mm0) = true)
    (hcov : ∀ k, k < L.length → k ∈ ons z.after.toList) (hlt : allLt (ons z.after.toList) L.length = true) (hgd : ∀ o ∈ L, ∀ j b, o.guard = some (j, b) → j < L.length)
    {P : TM → MM → Prop} (hP : SOps C n (L ++ [z]).toArray [z] tmF (MK.map (·.2) ++ mm0) P) :
    ∀ (fuel : Nat) (listed : Array Bool) (a : Act) (w : World) (tm : TM) (mm : MM), listed.size = L.length + 1 → listed.getD L.length true = false → (listed.toList.filter (!·)).length ≤ fuel → (∀ p, keepT L listed tmF p → p ∈ tm) →
      (∀ q ∈ mm0, q ∈ mm) → (∀ p ∈ MK, listed.getD p.1 false = true → p.2 ∈ mm) → (∀ q ∈ mm, q ∈ mm0 ∨ ∃ p ∈ MK, p.2 = q ∧ listed.getD p.1 false = true) → Has C n tm mm a w →
      wpAny C.P .any (L ++ [z]).toArray (QT C n P) fuel listed a w := by
  have hLz : (L ++ [z])[L.length]? = some z := by simp
  have hLk : ∀ k, k < L.length → (L ++ [z])[k]? = L[k]? := fun k hk => List.getElem?_append_left hk
  have hall : ∀ (listed : Array Bool), listed.size = L.length + 1 → (∀ j, j ∈ Region.ready .any (L ++ [z]).toArray listed → j = L.length) → ∀ k, k < L.length → listed.getD k false = true := by
    intro listed hsz hr k
    induction k using Nat.strongRecOn with
    | _ k ih =>
      intro hk
      cases hl : listed.getD k false with
      | true => rfl
      | false =>
        have hmem : k ∈ Region.ready .any (L ++ [z]).toArray listed := by
          rw [mem_ready]
          refine ⟨?_, L[k], by rw [List.getElem?_toArray, hLk k hk, List.getElem?_eq_getElem hk], fun e he hb => ?_⟩
          · have hks : k < listed.size := by omega
            simp [Array.getD, hks] at hl ⊢; exact hl
          · obtain ⟨_, _, h3⟩ := okR_get hok k L[k] (List.getElem?_eq_getElem hk)
            have := ons_mem (l := L[k].after.toList) (by simpa using he) hb
            have hlt := allLt_spec h3 _ this
            exact ih e.on (by omega) (by omega)
        have := hr k hmem
        omega
  have hlast : ∀ (listed : Array Bool), listed.size = L.length + 1 → listed.getD L.length true = false → (∀ k, k < L.length → listed.getD k false = true) → L.length ∈ Region.ready .any (L ++ [z]).toArray listed := by
    intro listed hsz hz ha
    rw [mem_ready]
    refine ⟨hz, z, by simp, fun e he hb => ?_⟩
    exact ha _ (allLt_spec hlt _ (ons_mem (by simpa using he) hb))
  have hend : ∀ (fuel : Nat) (listed : Array Bool) (a : Act) (w : World) (tm : TM) (mm : MM), listed.size = L.length + 1 → (∀ k, k < L.length → listed.getD k false = true) → (∀ p, keepT L listed tmF p → p ∈ tm) →
      (∀ q ∈ mm0, q ∈ mm) → (∀ p ∈ MK, listed.getD p.1 false = true → p.2 ∈ mm) → Has C n tm mm a w →
      wpOp C.P (L ++ [z]).toArray (QT C n P) L.length (wpAny C.P .any (L ++ [z]).toArray (QT C n P) fuel (listed.setIfInBounds L.length true)) a w := by
    intro fuel listed a w tm mm hsz ha hk hb hm hh
    have hF' : Has C n tmF (MK.map (·.2) ++ mm0) a w := hh.less (fun p hp => hk p ⟨hp, by
      by_cases hd : p.1 ∈ dstsE L
      · obtain ⟨k, o, h1, h2⟩ := dstsE_get hd
        exact .inr ⟨k, o, h1, h2, ha k (List.getElem?_eq_some_iff.1 h1).1⟩
      · exact .inl hd⟩) (fun q hq => by
      rcases List.mem_append.1 hq with hq | hq
      · obtain ⟨p, hp, rfl⟩ := List.mem_map.1 hq
        exact hm p hp (ha _ (hMl p hp))
      · exact hb q hq) hokT hokM
    have hnone : Region.ready .any (L ++ [z]).toArray (listed.setIfInBounds L.length true) = [] := by
      rw [List.eq_nil_iff_forall_not_mem]
      intro j hj
      obtain ⟨h1, o, h2, _⟩ := mem_ready.1 hj
      have hjl : j < (L ++ [z]).length := by simpa using (Array.getElem?_eq_some_iff.1 h2).1
      simp only [List.length_append, List.length_singleton] at hjl
      by_cases hjz : j = L.length
      · subst hjz
        have : L.length < listed.size := by omega
        simp [Array.getD, this] at h1
      · have h3 := ha j (by omega)
        have hjs : j < listed.size := by omega
        have hne : L.length ≠ j := fun e => hjz e.symm
        rw [getD_set_ne true hne] at h1
        simp [Array.getD, hjs] at h1 h3
        rw [h3] at h1; cases h1
    have hw := hP a w hF'
    have hmono : ∀ a' w', QT C n P .normal a' w' → wpAny C.P .any (L ++ [z]).toArray (QT C n P) fuel (listed.setIfInBounds L.length true) a' w' := by
      intro a' w' hq
      cases fuel with
      | zero => exact ⟨hnone, hq⟩
      | succ fuel => exact ⟨fun _ => hq, fun i hi => by rw [hnone] at hi; cases hi⟩
    unfold wpOp
    simp only [List.getElem?_toArray, hLz]
    unfold wpList at hw
    split at hw
    · rename_i hwd
      rw [if_pos hwd]
      rcases hw with hw | hw
      · exact .inl (Oper.wp_mono (fun a' w' h' => hmono a' w' h') hw)
      · exact .inr hw
    · rename_i hwd
      rw [if_neg hwd]
      exact hmono _ _ hw
  intro fuel
  induction fuel with
  | zero =>
    intro listed a w tm mm hsz hz hc
    exfalso
    have hm : false ∈ listed.toList.filter (!·) := by
      rw [List.mem_filter]
      have hs : L.length < listed.size := by omega
      have : listed[L.length] = false := by simpa [Array.getD, hs] using hz
      exact ⟨by rw [← this]; simp, rfl⟩
    have := List.length_pos_of_mem hm
    omega
  | succ fuel ih =>
    intro listed a w tm mm hsz hz hc hk hb hmade honly hh
    refine ⟨fun hr => ?_, fun i hi => ?_⟩
    · exfalso
      have := hlast listed hsz hz (hall listed hsz fun j hj => by rw [hr] at hj; cases hj)
      rw [hr] at this; cases this
    obtain ⟨h1, o, h2, h3⟩ := mem_ready.1 hi
    have hil : i < (L ++ [z]).length := by simpa using (Array.getElem?_eq_some_iff.1 h2).1
    simp only [List.length_append, List.length_singleton] at hil
    by_cases hiz : i = L.length
    · subst hiz
      have hoz : o = z := by simpa using h2.symm
      subst hoz
      refine hend fuel listed a w tm mm hsz (fun k hkl => ?_) hk hb hmade hh
      obtain ⟨e, he, hbi, heo⟩ := ons_of (hcov k hkl)
      have := h3 e (by simpa using he) hbi
      rwa [heo] at this
    have hil' : i < L.length := by omega
    have hL : L[i]? = some o := by
      have : (L ++ [z])[i]? = some o := by simpa using h2
      rwa [hLk i hil'] at this
    have his : i < listed.size := by omega
    have hfalse : listed[i] = false := by simpa [Array.getD, his] using h1
    have hfalse' : listed.getD i false = false := by simpa [Array.getD, his] using hfalse
    obtain ⟨_, hw, _⟩ := okR_get hok i o hL
    obtain ⟨d, s, add, hO⟩ := hF i o hL
    have hon : ∀ j, j ∈ ons o.after.toList → listed.getD j false = true := by
      intro j hj
      obtain ⟨e, he, hbi, heo⟩ := ons_of hj
      have := h3 e (by simpa using he) hbi
      rwa [heo] at this
    have hpre : Looked L tmF o tm := by
      intro p hp hl
      refine hk p ⟨hp, ?_⟩
      by_cases hd : p.1 ∈ dstsE L
      · obtain ⟨k, o', k1, k2⟩ := dstsE_get hd
        have := waitE_spec hw k o' p.1 k1 k2 hl
        exact .inr ⟨k, o', k1, k2, hon k (by simpa using this)⟩
      · exact .inl hd
    have hfresh : ∀ q ∈ add, ∀ r ∈ mm, r.1 ≠ q.1 := by
      intro q hq r hr
      have hqM := (hO.made q).2 hq
      rcases honly r hr with h0 | ⟨p, hp, hpr, hpl⟩
      · exact hM0 _ hqM r h0
      · intro e
        have : p = (i, q) := hMd p hp (i, q) hqM (by rw [hpr]; exact e)
        rw [this] at hpl
        rw [hfalse'] at hpl; cases hpl
    have hcount : ((listed.setIfInBounds i true).toList.filter (!·)).length ≤ fuel := by
      have h5 : ((listed.setIfInBounds i true).toList.filter (!·)).length + 1 = (listed.toList.filter (!·)).length := by
        rw [show (listed.setIfInBounds i true).toList = listed.toList.set i true by simp]
        exact count_set (by simp [his, hfalse])
      omega
    have hnext : ∀ a' w', Has C n ((d, s) :: delL tm d) (add ++ mm) a' w' → wpAny C.P .any (L ++ [z]).toArray (QT C n P) fuel (listed.setIfInBounds i true) a' w' := by
      intro a' w' h'
      have hset : ∀ j, listed.getD j false = true → (listed.setIfInBounds i true).getD j false = true := by
        intro j hj
        by_cases hij : i = j
        · subst hij; exact getD_set_self his
        · rw [getD_set_ne false hij]; exact hj
      refine ih (listed.setIfInBounds i true) a' w' _ _ (by simpa using hsz) (by rw [getD_set_ne true hiz]; exact hz) hcount (fun p hp => ?_) (fun q hq => List.mem_append_right _ (hb q hq)) (fun p hp hl => ?_) (fun q hq => ?_) h'
      · obtain ⟨g1, g2⟩ := hp
        by_cases hpd : p.1 = d
        · have : p = (d, s) := keyF p g1 (d, s) hO.tin hpd
          rw [this]; exact List.mem_cons_self
        · refine List.mem_cons_of_mem _ (mem_delL (hk p ⟨g1, ?_⟩) hpd)
          rcases g2 with g2 | ⟨k, o', k1, k2, k3⟩
          · exact .inl g2
          · refine .inr ⟨k, o', k1, k2, ?_⟩
            have hki : i ≠ k := by
              intro e; subst e
              rw [hL] at k1; injection k1 with k1; subst k1
              have e1 := hO.dst
              rw [e1] at k2; injection k2 with k2; exact hpd k2.symm
            rwa [getD_set_ne false hki] at k3
      · by_cases hpi : i = p.1
        · exact List.mem_append_left _ ((hO.made p.2).1 (by rw [hpi]; exact hp))
        · rw [getD_set_ne false hpi] at hl
          exact List.mem_append_right _ (hmade p hp hl)
      · rcases List.mem_append.1 hq with hq | hq
        · exact .inr ⟨(i, q), (hO.made q).2 hq, rfl, getD_set_self his⟩
        · rcases honly q hq with h0 | ⟨p, hp, hpr, hpl⟩
          · exact .inl h0
          · exact .inr ⟨p, hp, hpr, hset _ hpl⟩
    unfold wpOp
    have h2' : (L ++ [z])[i]? = some o := by simpa using h2
    simp only [List.getElem?_toArray, h2']
    have h6 := hO.ok tm mm hpre hb (fun j q hj ho => hmade (j, q) hj (hon j ho)) hfresh a w (wpAny C.P .any (L ++ [z]).toArray (QT C n P) fuel (listed.setIfInBounds i true)) (QT C n P) hh hnext
    rw [← wanted_app (z := z) (a := a) (hgd o (List.mem_of_getElem? hL))] at h6
    split
    · rename_i hwd; rw [if_pos hwd] at h6; exact .inl h6
    · rename_i hwd; rw [if_neg hwd] at h6; exact h6

/-! ### The tests -/
def uniK : TM → Bool
  | [] => true
  | (t, _) :: r => match keyT t r with
    | true => uniK r
    | false => false
theorem uniK_spec : ∀ {l : TM}, uniK l = true → ∀ p ∈ l, ∀ q ∈ l, p.1 = q.1 → p = q
  | [], _, p, hp => by cases hp
  | (t, s) :: r, h, p, hp => by
    unfold uniK at h
    split at h
    · rename_i hk
      have hk := keyT_spec hk
      intro q hq e
      rcases List.mem_cons.1 hp with rfl | hp <;> rcases List.mem_cons.1 hq with rfl | hq
      · rfl
      · exact absurd e.symm (hk q hq)
      · exact absurd e (hk p hp)
      · exact uniK_spec h p hp q hq e
    · cases h
def newM (mm : MM) : MKs → Bool
  | [] => true
  | p :: r => match hasI mm p.2.1 with
    | true => false
    | false => newM mm r
theorem newM_spec {mm : MM} : ∀ {l : MKs}, newM mm l = true → ∀ p ∈ l, ∀ q ∈ mm, q.1 ≠ p.2.1
  | [], _, p, hp => by cases hp
  | x :: r, h, p, hp => by
    unfold newM at h
    split at h
    · cases h
    · rename_i hf
      rcases List.mem_cons.1 hp with rfl | hp
      · exact fun q hq e => hasI_false hf ⟨q, hq, e⟩
      · exact newM_spec h p hp
def ltM (n : Nat) : MKs → Bool
  | [] => true
  | p :: r => match Nat.blt p.1 n with
    | true => ltM n r
    | false => false
theorem ltM_spec {n : Nat} : ∀ {l : MKs}, ltM n l = true → ∀ p ∈ l, p.1 < n
  | [], _, p, hp => by cases hp
  | x :: r, h, p, hp => by
    unfold ltM at h
    split at h
    · rename_i hb
      rcases List.mem_cons.1 hp with rfl | hp
      · exact Nat.blt_eq.mp hb
      · exact ltM_spec h p hp
    · cases h
def uniMK : MKs → Bool
  | [] => true
  | p :: r => match keyT p.2.1 (r.map fun q => (q.2.1, .tup [])) with
    | true => uniMK r
    | false => false
theorem uniMK_spec : ∀ {l : MKs}, uniMK l = true → ∀ p ∈ l, ∀ q ∈ l, p.2.1 = q.2.1 → p = q
  | [], _, p, hp => by cases hp
  | x :: r, h, p, hp => by
    unfold uniMK at h
    split at h
    · rename_i hk
      have hk := keyT_spec hk
      intro q hq e
      rcases List.mem_cons.1 hp with hp' | hp' <;> rcases List.mem_cons.1 hq with hq' | hq'
      · rw [hp', hq']
      · rw [hp'] at e; exact absurd e.symm (hk (q.2.1, .tup []) (List.mem_map.2 ⟨q, hq', rfl⟩))
      · rw [hq'] at e; exact absurd e (hk (p.2.1, .tup []) (List.mem_map.2 ⟨p, hp', rfl⟩))
      · exact uniMK_spec h p hp' q hq' e
    · cases h
def inE (l : List Nat) : TM → Bool
  | [] => true
  | (t, _) :: r => match memN l t with
    | true => inE l r
    | false => false
theorem inE_spec {l : List Nat} : ∀ {tm : TM}, inE l tm = true → ∀ p ∈ tm, p.1 ∈ l
  | [], _, p, hp => by cases hp
  | (t, s) :: r, h, p, hp => by
    unfold inE at h
    split at h
    · rename_i hm
      rcases List.mem_cons.1 hp with rfl | hp
      · exact memN_iff.1 hm
      · exact inE_spec h p hp
    · cases h

/-- A region that draws its order; some of its operations make objects; the last waits for all others. -/
theorem g_drawM {Lf : List Oper} {f : FuncId} {R : Ending → World → Prop} {k : List Item} {id : Nat} {tm : TM} (tmN : TM) (MK : MKs) (hmix : C.P.follows .mixedOrders = true) (hsp : splitE Lf = some (L, z)) (hok : okR L [] L 0 = true)
    (hu : uniK (tmN ++ cutT (dstsE L) tm) = true) (hin : inE (dstsE L) tmN = true) (hMd : uniMK MK = true) (hM0 : newM mm0 MK = true) (hMl : ltM L.length MK = true)
    (hokT : okT (MK.map (·.2) ++ mm0) (tmN ++ cutT (dstsE L) tm) = true) (hokM : okM (MK.map (·.2) ++ mm0) (MK.map (·.2) ++ mm0) = true)
    (hcov : covE (ons z.after.toList) L.length = true) (hlt : allLt (ons z.after.toList) L.length = true) (hgd : guardsE L.length L = true)
    (hF : ∀ i o, L[i]? = some o → ∃ d s add, OkM C n mm0 L (tmN ++ cutT (dstsE L) tm) MK i o d s add)
    (h : SOps C n Lf.toArray [z] (tmN ++ cutT (dstsE L) tm) (MK.map (·.2) ++ mm0) (fun tm'' mm'' => Goes C f n R k tm'' mm'')) : Goes C f n R (.code (.region id Lf.toArray true) :: k) tm mm0 := by
  have hLf := splitE_eq hsp
  subst hLf
  intro a w hh0 b cs hb hk
  have hany := any_lastM (z := z) (P := fun tm' mm' => Goes C f n R k tm' mm') hok hF (uniK_spec hu) (uniMK_spec hMd) (newM_spec hM0) (ltM_spec hMl) hokT hokM (covE_spec hcov) hlt (guardsE_spec hgd) h (L.length + 1) (Array.replicate (L.length + 1) false) a { w with drawn := w.drawn + 1 } tm mm0 (by simp) (by simp [Array.getD])
    (by rw [show (Array.replicate (L.length + 1) false).toList = List.replicate (L.length + 1) false by simp]; exact Nat.le_trans (List.length_filter_le _ _) (by simp))
    (fun p hp => by
      obtain ⟨g1, g2 | ⟨k, o, k1, k2, k3⟩⟩ := hp
      · rcases List.mem_append.1 g1 with g1 | g1
        · exact absurd (inE_spec hin p g1) g2
        · exact cutT_mem g1
      · have hkl := (List.getElem?_eq_some_iff.1 k1).1
        simp [Array.getD, show k < L.length + 1 by omega] at k3)
    (fun q hq => hq) (fun p hp hl => by
      have := ltM_spec hMl p hp
      simp [Array.getD, show p.1 < L.length + 1 by omega] at hl) (fun q hq => .inl hq) hh0.drawn
  have hwp := wp_region_any (id := id) (Q := QT C n (fun tm' mm' => Goes C f n R k tm' mm')) (ops := (L ++ [z]).toArray) (a := a) (w := w) hmix (by simpa using hany)
  obtain ⟨e, a', w', hq, harr⟩ := hwp b k cs
  cases e with
  | normal =>
    obtain ⟨tm', mm', hg, hh'⟩ := hq
    obtain ⟨e, w'', fr, g1, g2, g3⟩ := hg a' w' hh' b cs hb hk
    exact ⟨e, w'', fr, g1, Comes.of_steps harr g2, g3⟩
  | _ => exact hq.elim

/-! ### The operations -/
variable {tmF : TM} {MK : MKs} {i : Nat} {o : Oper} {d : Nat} {s : ST} {x y : Operand}
theorem okM_val (hd : o.dst = some d) (hin : (d, s) ∈ tmF) (hmk : ∀ q, (i, q) ∈ MK ↔ q ∈ ([] : MM)) (hg : guardL L (onlyE (looksE L o) tmF) o = some true)
    (h : ∀ mm', (∀ q ∈ mm0, q ∈ mm') → (∀ p ∈ mm', ∀ q ∈ mm', p.1 = q.1 → p = q) → OpX C n mm' o (onlyE (looksE L o) tmF) d s) : OkM C n mm0 L tmF MK i o d s [] :=
  ⟨hd, hin, hmk, fun tm' mm' hL hb _ _ a w K Q hh hK => by
    rw [if_pos (guard_looked hg hL hh)]
    exact (h mm' hb (has_uniq hh)).2 tm' (fun p hp => hL p (onlyE_mem.1 hp).1 (onlyE_mem.1 hp).2) a w K Q hh hK⟩
theorem okM_alloc {Θ : Tab} (hΘ : tabOK C.P Θ) {e : TypeId} {zz bts : Nat} {ag : Bool} {zr : List CT} {sh : Sh} (hg : guardL L (onlyE (looksE L o) tmF) o = some true) (ho : o.op = .alloc e)
    (ht : tyGet Θ e = some ⟨zz, bts, ag, some zr, sh⟩) (hd : o.dst = some d) (hn : Nat.blt d n = true) (hin : (d, .v (.one (.ptr d 0))) ∈ tmF) (hmk : ∀ q, (i, q) ∈ MK ↔ q ∈ [(d, MO.box (zr.map SC.c))]) :
    OkM C n mm0 L tmF MK i o d (.v (.one (.ptr d 0))) [(d, .box (zr.map SC.c))] :=
  ⟨hd, hin, hmk, fun tm' mm' hL _ _ hf a w K Q hh hK => by
    rw [if_pos (guard_looked hg hL hh)]
    have hnone : getM mm' d = none := by
      cases hg' : getM mm' d with
      | none => rfl
      | some x => exact absurd rfl (hf (d, .box (zr.map SC.c)) List.mem_cons_self (d, x) (getM_mem hg'))
    exact (op_alloc hΘ ho ht hnone hd hn).wp a w K Q hh hK⟩
theorem okM_appendN {Θ : Tab} (hΘ : tabOK C.P Θ) {t : TypeId} {zz bts e : Nat} {ag : Bool} {zt : Option (List CT)} {ei : TyI} {zr : List CT} {nn' : Bool} {sz : Nat} {ys : List (List CT)}
    (ho : o.op = .call { callee := .builtin .append, args := ⟨[x, y]⟩, argTypes := ⟨[t, t]⟩ }) (ht : tyGet Θ t = some ⟨zz, bts, ag, zt, .slice e⟩) (hei : tyGet Θ e = some ei) (hz : ei.zero = some zr)
    (hsz : Nat.beq ei.size sz = true) (hs0 : Nat.blt 0 ei.size = true) (hx : evalC (onlyE (looksE L o) tmF) x = some (.c .nils)) (hy : evalC (onlyE (looksE L o) tmF) y = some (.c (.slice nn' sz ys)))
    (hig : Nat.blt d given = true) (hd : o.dst = some d) (hn : Nat.blt d n = true) (hg : guardL L (onlyE (looksE L o) tmF) o = some true)
    (hbig : ys.length ≤ 9223372036854775807 ∧ ys.length * ei.bytes ≤ 140737488355328) (hin : (d, .v (.one (.own d))) ∈ tmF) (hmk : ∀ q, (i, q) ∈ MK ↔ q ∈ [(d, MO.arr false e sz ys)]) :
    OkM C n mm0 L tmF MK i o d (.v (.one (.own d))) [(d, .arr false e sz ys)] :=
  ⟨hd, hin, hmk, fun tm' mm' hL' _ _ hf a w K Q hh hK => by
    have hf : ∀ q ∈ mm', q.1 ≠ d := fun q hq => hf _ List.mem_cons_self q hq
    rw [if_pos (guard_looked hg hL' hh)]
    have hnone : hasI mm' d = false := by
      unfold hasI
      cases hg' : getM mm' d with
      | none => rfl
      | some x => exact absurd rfl (hf _ (getM_mem hg'))
    have hnu : noUse d ((d, .arr false e sz []) :: mm') = true := noUse_of fun q hq hu => by
      rcases List.mem_cons.1 hq with rfl | hq
      · simp [MO.uses] at hu
      · obtain ⟨q', h1, h2⟩ := hh.mm_uses q hq d hu
        exact hf q' h1 h2
    have hrun := (op_appendN (C := C) (n := n) (tm := onlyE (looksE L o) tmF ++ tm') hΘ d ho ht hei hz hsz hs0 (evalC_app hx) (evalC_app hy) hig hnone hnu hd hn hbig).wp
    refine hrun a w K Q (hh.incl fun p hp => (List.mem_append.1 hp).elim (fun hp => hL' p (onlyE_mem.1 hp).1 (onlyE_mem.1 hp).2) id) fun a' w' h' => hK a' w' (h'.incl fun p hp => ?_)
    rcases List.mem_cons.1 hp with rfl | hp
    · exact List.mem_cons_self
    · obtain ⟨h1, h2⟩ := delL_mem hp
      refine List.mem_cons_of_mem _ (mem_delL (dropU_in (fun hu => ?_) (List.mem_append_right _ h1)) h2)
      obtain ⟨q', g1, g2⟩ := hh.tm_uses p h1 d hu
      exact hf q' g1 g2⟩
end
end Go.Sy
