/- Layer: a region that draws its order, of which the last operation waits for all others and may set what the others read. -/
import Derived.Test.YtadimhaolhpglaaQe
set_option linter.unusedSimpArgs false
set_option linter.unusedVariables false
set_option linter.unusedSectionVars false
namespace Go.Sy
open Go.RowKit

def splitE : List Oper → Option (List Oper × Oper)
  | [] => none
  | [z] => some ([], z)
  | o :: r => match splitE r with
    | some (l, z) => some (o :: l, z)
    | none => none
theorem splitE_eq : ∀ {L L' : List Oper} {z : Oper}, splitE L = some (L', z) → L = L' ++ [z]
  | [], _, _, h => by simp [splitE] at h
  | [o], _, _, h => by simp [splitE] at h; obtain ⟨rfl, rfl⟩ := h; rfl
  | o :: p :: r, L', z, h => by
    simp only [splitE] at h
    split at h
    · rename_i l z' hs
      simp only [Option.some.injEq, Prod.mk.injEq] at h
      obtain ⟨rfl, rfl⟩ := h
      rw [splitE_eq hs]; rfl
    · cases h
def covE (af : List Nat) : Nat → Bool
  | 0 => true
  | k + 1 => match memN af k with
    | true => covE af k
    | false => false
theorem covE_spec {af : List Nat} : ∀ {n : Nat}, covE af n = true → ∀ k, k < n → k ∈ af
  | n + 1, h, k, hk => by
    unfold covE at h
    split at h
    · rename_i hm
      by_cases hkn : k = n
      · subst hkn; exact memN_iff.1 hm
      · exact covE_spec h k (by omega)
    · cases h
def guardsE (n : Nat) : List Oper → Bool
  | [] => true
  | o :: r => match o.guard with
    | none => guardsE n r
    | some (j, _) => match Nat.blt j n with
      | true => guardsE n r
      | false => false
theorem guardsE_spec {n : Nat} : ∀ {l : List Oper}, guardsE n l = true → ∀ o ∈ l, ∀ j b, o.guard = some (j, b) → j < n
  | [], _, _, ho, _, _, _ => by cases ho
  | o :: r, h, o', ho, j, b, hg => by
    unfold guardsE at h
    rcases List.mem_cons.1 ho with rfl | ho
    · rw [hg] at h
      simp only at h
      split at h
      · rename_i hb; exact Nat.blt_eq.mp hb
      · cases h
    · split at h
      · exact guardsE_spec h o' ho j b hg
      · split at h
        · exact guardsE_spec h o' ho j b hg
        · cases h
theorem ons_mem {e : Go.Edge} : ∀ {l : List Go.Edge}, e ∈ l → Region.binds .any e = true → e.on ∈ ons l
  | x :: l, h, hb => by
    unfold ons
    rcases List.mem_cons.1 h with rfl | h
    · rw [hb]; exact List.mem_cons_self
    · split
      · exact List.mem_cons_of_mem _ (ons_mem h hb)
      · exact ons_mem h hb
theorem ons_of {j : Nat} : ∀ {l : List Go.Edge}, j ∈ ons l → ∃ e ∈ l, Region.binds .any e = true ∧ e.on = j
  | [], h => by simp [ons] at h
  | x :: l, h => by
    unfold ons at h
    split at h
    · rename_i hb
      rcases List.mem_cons.1 h with rfl | h
      · exact ⟨x, List.mem_cons_self, hb, rfl⟩
      · obtain ⟨e, h1, h2⟩ := ons_of h
        exact ⟨e, List.mem_cons_of_mem _ h1, h2⟩
    · obtain ⟨e, h1, h2⟩ := ons_of h
      exact ⟨e, List.mem_cons_of_mem _ h1, h2⟩

def anyE (k : Nat) : List Oper → Bool
  | [] => false
  | o :: r => match memN (ons o.after.toList) k with
    | true => true
    | false => anyE k r
/-- Every operation ahead of the last is waited for, by the last or by another. -/
def covE2 (L : List Oper) (af : List Nat) : Nat → Bool
  | 0 => true
  | k + 1 => match memN af k with
    | true => covE2 L af k
    | false => match anyE k L with
      | true => covE2 L af k
      | false => false
theorem anyE_spec {k : Nat} : ∀ {L : List Oper}, anyE k L = true → ∃ o ∈ L, k ∈ ons o.after.toList
  | [], h => by cases h
  | o :: r, h => by
    unfold anyE at h
    split at h
    · rename_i hm; exact ⟨o, List.mem_cons_self, memN_iff.1 hm⟩
    · obtain ⟨o', ho, hk⟩ := anyE_spec h
      exact ⟨o', List.mem_cons_of_mem _ ho, hk⟩
theorem covE2_spec {L : List Oper} {af : List Nat} : ∀ {n : Nat}, covE2 L af n = true → ∀ k, k < n → k ∈ af ∨ ∃ o ∈ L, k ∈ ons o.after.toList
  | n + 1, h, k, hk => by
    unfold covE2 at h
    have hrec : ∀ m, covE2 L af n = true → m < n → m ∈ af ∨ ∃ o ∈ L, m ∈ ons o.after.toList := fun m hh hm => covE2_spec hh m hm
    split at h
    · rename_i hm
      rcases Nat.lt_or_ge k n with h1 | h1
      · exact hrec k h h1
      · have : k = n := by omega
        subst this; exact .inl (memN_iff.1 hm)
    · split at h
      · rename_i hm
        rcases Nat.lt_or_ge k n with h1 | h1
        · exact hrec k h h1
        · have : k = n := by omega
          subst this; exact .inr (anyE_spec hm)
      · cases h

section
variable {C : Ctx} {n : Nat} {mm : MM} {L : List Oper} {z : Oper}
theorem wanted_app {o : Oper} {a : Act} (h : ∀ j b, o.guard = some (j, b) → j < L.length) : Region.wanted o (yielded (L ++ [z]).toArray a.tmps) = Region.wanted o (yielded L.toArray a.tmps) := by
  unfold Region.wanted
  split
  · rfl
  · rename_i j want hg
    have hj := h j want hg
    have : yielded (L ++ [z]).toArray a.tmps j = yielded L.toArray a.tmps j := by
      unfold yielded
      simp [List.getElem?_append_left hj]
    rw [this]

theorem any_last {tmF : TM} (hok : okR L [] L 0 = true) (hF : ∀ o ∈ L, OkO C n mm L tmF o) (keyF : ∀ p ∈ tmF, ∀ q ∈ tmF, p.1 = q.1 → p = q)
    (hcov : ∀ k, k < L.length → k ∈ ons z.after.toList ∨ ∃ o ∈ L, k ∈ ons o.after.toList) (hlt : allLt (ons z.after.toList) L.length = true) (hgd : ∀ o ∈ L, ∀ j b, o.guard = some (j, b) → j < L.length)
    {P : TM → MM → Prop} (hP : SOps C n (L ++ [z]).toArray [z] tmF mm P) :
    ∀ (fuel : Nat) (listed : Array Bool) (a : Act) (w : World) (tm : TM), listed.size = L.length + 1 → listed.getD L.length true = false → (listed.toList.filter (!·)).length ≤ fuel → (∀ p, keepT L listed tmF p → p ∈ tm) → (∀ j o, L[j]? = some o → listed.getD j false = true → ∀ i ∈ ons o.after.toList, listed.getD i false = true) → Has C n tm mm a w →
      wpAny C.P .any (L ++ [z]).toArray (QT C n P) fuel listed a w := by
  have hLz : (L ++ [z])[L.length]? = some z := by simp
  have hLk : ∀ k, k < L.length → (L ++ [z])[k]? = L[k]? := fun k hk => List.getElem?_append_left hk
  -- all are listed where only the last may come up
  have hall : ∀ (listed : Array Bool), listed.size = L.length + 1 → (∀ j, j ∈ Region.ready .any (L ++ [z]).toArray listed → j = L.length) → ∀ k, k < L.length → listed.getD k false = true := by
    intro listed hsz hr k
    induction k using Nat.strongRecOn with
    | _ k ih =>
      intro hk
      cases hl : listed.getD k false with
      | true => rfl
      | false =>
        have hmem : k ∈ Region.ready .any (L ++ [z]).toArray listed := by
          rw [mem_ready]
          refine ⟨?_, L[k], by rw [List.getElem?_toArray, hLk k hk, List.getElem?_eq_getElem hk], fun e he hb => ?_⟩
          · have hks : k < listed.size := by omega
            simp [Array.getD, hks] at hl ⊢; exact hl
          · obtain ⟨_, _, h3⟩ := okR_get hok k L[k] (List.getElem?_eq_getElem hk)
            have := ons_mem (l := L[k].after.toList) (by simpa using he) hb
            have hlt := allLt_spec h3 _ this
            exact ih e.on (by omega) (by omega)
        have := hr k hmem
        omega
  have hlast : ∀ (listed : Array Bool), listed.size = L.length + 1 → listed.getD L.length true = false → (∀ k, k < L.length → listed.getD k false = true) → L.length ∈ Region.ready .any (L ++ [z]).toArray listed := by
    intro listed hsz hz ha
    rw [mem_ready]
    refine ⟨hz, z, by simp, fun e he hb => ?_⟩
    exact ha _ (allLt_spec hlt _ (ons_mem (by simpa using he) hb))
  -- the last operation
  have hend : ∀ (fuel : Nat) (listed : Array Bool) (a : Act) (w : World) (tm : TM), listed.size = L.length + 1 → (∀ k, k < L.length → listed.getD k false = true) → (∀ p, keepT L listed tmF p → p ∈ tm) → Has C n tm mm a w →
      wpOp C.P (L ++ [z]).toArray (QT C n P) L.length (wpAny C.P .any (L ++ [z]).toArray (QT C n P) fuel (listed.setIfInBounds L.length true)) a w := by
    intro fuel listed a w tm hsz ha hk hh
    have hF' : Has C n tmF mm a w := hh.incl fun p hp => hk p ⟨hp, by
      by_cases hd : p.1 ∈ dstsE L
      · obtain ⟨k, o, h1, h2⟩ := dstsE_get hd
        exact .inr ⟨k, o, h1, h2, ha k (List.getElem?_eq_some_iff.1 h1).1⟩
      · exact .inl hd⟩
    have hnone : Region.ready .any (L ++ [z]).toArray (listed.setIfInBounds L.length true) = [] := by
      rw [List.eq_nil_iff_forall_not_mem]
      intro j hj
      obtain ⟨h1, o, h2, _⟩ := mem_ready.1 hj
      have hjl : j < (L ++ [z]).length := by simpa using (Array.getElem?_eq_some_iff.1 h2).1
      simp only [List.length_append, List.length_singleton] at hjl
      by_cases hjz : j = L.length
      · subst hjz
        have : L.length < listed.size := by omega
        simp [Array.getD, this] at h1
      · have h3 := ha j (by omega)
        have hjs : j < listed.size := by omega
        have hne : L.length ≠ j := fun e => hjz e.symm
        rw [getD_set_ne true hne] at h1
        simp [Array.getD, hjs] at h1 h3
        rw [h3] at h1; cases h1
    have hw := hP a w hF'
    have hmono : ∀ a' w', QT C n P .normal a' w' → wpAny C.P .any (L ++ [z]).toArray (QT C n P) fuel (listed.setIfInBounds L.length true) a' w' := by
      intro a' w' hq
      cases fuel with
      | zero => exact ⟨hnone, hq⟩
      | succ fuel => exact ⟨fun _ => hq, fun i hi => by rw [hnone] at hi; cases hi⟩
    unfold wpOp
    simp only [List.getElem?_toArray, hLz]
    unfold wpList at hw
    split at hw
    · rename_i hwd
      rw [if_pos hwd]
      rcases hw with hw | hw
      · exact .inl (Oper.wp_mono (fun a' w' h' => hmono a' w' h') hw)
      · exact .inr hw
    · rename_i hwd
      rw [if_neg hwd]
      exact hmono _ _ hw
  intro fuel
  induction fuel with
  | zero =>
    intro listed a w tm hsz hz hc hk hdn hh
    exfalso
    have hm : false ∈ listed.toList.filter (!·) := by
      rw [List.mem_filter]
      have hs : L.length < listed.size := by omega
      have : listed[L.length] = false := by simpa [Array.getD, hs] using hz
      exact ⟨by rw [← this]; simp, rfl⟩
    have := List.length_pos_of_mem hm
    omega
  | succ fuel ih =>
    intro listed a w tm hsz hz hc hk hdn hh
    refine ⟨fun hr => ?_, fun i hi => ?_⟩
    · exfalso
      have := hlast listed hsz hz (hall listed hsz fun j hj => by rw [hr] at hj; cases hj)
      rw [hr] at this; cases this
    obtain ⟨h1, o, h2, h3⟩ := mem_ready.1 hi
    have hil : i < (L ++ [z]).length := by simpa using (Array.getElem?_eq_some_iff.1 h2).1
    simp only [List.length_append, List.length_singleton] at hil
    by_cases hiz : i = L.length
    · subst hiz
      have hoz : o = z := by simpa using h2.symm
      subst hoz
      refine hend fuel listed a w tm hsz (fun k hkl => ?_) hk hh
      have key : ∀ m, ∀ k, k + m = L.length → 0 < m → listed.getD k false = true := by
        intro m
        induction m using Nat.strongRecOn with
        | _ m ihm =>
          intro k hkm hm0
          rcases hcov k (by omega) with hkz | ⟨o', ho', hko⟩
          · obtain ⟨e, he, hb, heo⟩ := ons_of hkz
            have := h3 e (by simpa using he) hb
            rwa [heo] at this
          · obtain ⟨j, hj, hjo⟩ := List.mem_iff_getElem.1 ho'
            have hLj : L[j]? = some o' := by rw [List.getElem?_eq_getElem hj, hjo]
            obtain ⟨_, _, g3⟩ := okR_get hok j o' hLj
            have hlt' := allLt_spec g3 _ hko
            exact hdn j o' hLj (ihm (L.length - j) (by omega) j (by omega) (by omega)) k hko
      exact key (L.length - k) k (by omega) (by omega)
    have hil' : i < L.length := by omega
    have hL : L[i]? = some o := by
      have : (L ++ [z])[i]? = some o := by simpa using h2
      rwa [hLk i hil'] at this
    have his : i < listed.size := by omega
    have hfalse : listed[i] = false := by simpa [Array.getD, his] using h1
    obtain ⟨_, hw, _⟩ := okR_get hok i o hL
    obtain ⟨d, s, e1, e2, e3⟩ := hF o (List.mem_of_getElem? hL)
    have hon : ∀ j, j ∈ ons o.after.toList → listed.getD j false = true := by
      intro j hj
      obtain ⟨e, he, hb, heo⟩ := ons_of hj
      have := h3 e (by simpa using he) hb
      rwa [heo] at this
    have hpre : ∀ p ∈ tmF, p.1 ∈ looksE L o → p ∈ tm := by
      intro p hp hl
      refine hk p ⟨hp, ?_⟩
      by_cases hd : p.1 ∈ dstsE L
      · obtain ⟨k, o', k1, k2⟩ := dstsE_get hd
        have := waitE_spec hw k o' p.1 k1 k2 hl
        exact .inr ⟨k, o', k1, k2, hon k (by simpa using this)⟩
      · exact .inl hd
    have hcount : ((listed.setIfInBounds i true).toList.filter (!·)).length ≤ fuel := by
      have h5 : ((listed.setIfInBounds i true).toList.filter (!·)).length + 1 = (listed.toList.filter (!·)).length := by
        rw [show (listed.setIfInBounds i true).toList = listed.toList.set i true by simp]
        exact count_set (by simp [his, hfalse])
      omega
    have hnext : ∀ a' w', Has C n ((d, s) :: delL tm d) mm a' w' → wpAny C.P .any (L ++ [z]).toArray (QT C n P) fuel (listed.setIfInBounds i true) a' w' := by
      intro a' w' h'
      refine ih (listed.setIfInBounds i true) a' w' _ (by simpa using hsz) (by rw [getD_set_ne true hiz]; exact hz) hcount (fun p hp => ?_) (fun j oj hj hjl q hq => ?_) h'
      rotate_left
      · by_cases hqi : q = i
        · subst hqi; simp [Array.getD, his]
        · rw [getD_set_ne false (fun e => hqi e.symm)]
          by_cases hji : j = i
          · subst hji
            rw [hL] at hj; injection hj with hj; subst hj
            exact hon q hq
          · rw [getD_set_ne false (fun e => hji e.symm)] at hjl
            exact hdn j oj hj hjl q hq
      obtain ⟨g1, g2⟩ := hp
      by_cases hpd : p.1 = d
      · have : p = (d, s) := keyF p g1 (d, s) e2 hpd
        rw [this]; exact List.mem_cons_self
      · refine List.mem_cons_of_mem _ (mem_delL (hk p ⟨g1, ?_⟩) hpd)
        rcases g2 with g2 | ⟨k, o', k1, k2, k3⟩
        · exact .inl g2
        · refine .inr ⟨k, o', k1, k2, ?_⟩
          have hki : i ≠ k := by
            intro e; subst e
            rw [hL] at k1; injection k1 with k1; subst k1
            rw [e1] at k2; injection k2 with k2; exact hpd k2.symm
          rwa [getD_set_ne false hki] at k3
    unfold wpOp
    have h2' : (L ++ [z])[i]? = some o := by simpa using h2
    simp only [List.getElem?_toArray, h2']
    have h6 := e3 tm hpre a w (wpAny C.P .any (L ++ [z]).toArray (QT C n P) fuel (listed.setIfInBounds i true)) (QT C n P) hh hnext
    rw [← wanted_app (z := z) (a := a) (hgd o (List.mem_of_getElem? hL))] at h6
    split
    · rename_i hwd; rw [if_pos hwd] at h6; exact .inl h6
    · rename_i hwd; rw [if_neg hwd] at h6; exact h6

/-- A region that draws its order; its last operation waits for all others. -/
theorem g_drawA {Lf : List Oper} {f : FuncId} {R : Ending → World → Prop} {k : List Item} {id : Nat} {tm : TM} (hmix : C.P.follows .mixedOrders = true) (hsp : splitE Lf = some (L, z)) (hok : okR L [] L 0 = true) (hu : uniT (dstsE L) (cutT (dstsE L) tm) = true)
    (hcov : covE2 L (ons z.after.toList) L.length = true) (hlt : allLt (ons z.after.toList) L.length = true) (hgd : guardsE L.length L = true)
    (h : DOps C n mm L (cutT (dstsE L) tm) L (cutT (dstsE L) tm) (fun tm' => SOps C n Lf.toArray [z] tm' mm (fun tm'' mm'' => Goes C f n R k tm'' mm''))) : Goes C f n R (.code (.region id Lf.toArray true) :: k) tm mm := by
  have hLf := splitE_eq hsp
  subst hLf
  obtain ⟨u1, u2⟩ := uniT_spec hu
  obtain ⟨tmF, hg, hF, hbase, hkeys⟩ := h [] 0 ⟨fun o ho => (by cases ho), u2, fun p hp _ => hp, hok, rfl⟩
  intro a w hh0 b cs hb hk
  have hh : Has C n (cutT (dstsE L) tm) mm a w := hh0.incl fun _ hp => cutT_mem hp
  have hany := any_last (z := z) (P := fun tm' mm' => Goes C f n R k tm' mm') hok hF hkeys (covE2_spec hcov) hlt (guardsE_spec hgd) hg (L.length + 1) (Array.replicate (L.length + 1) false) a { w with drawn := w.drawn + 1 } (cutT (dstsE L) tm) (by simp) (by simp [Array.getD])
    (by rw [show (Array.replicate (L.length + 1) false).toList = List.replicate (L.length + 1) false by simp]; exact Nat.le_trans (List.length_filter_le _ _) (by simp))
    (fun p hp => by
      obtain ⟨g1, g2 | ⟨k, o, k1, k2, k3⟩⟩ := hp
      · exact hbase p g1 g2
      · have hkl := (List.getElem?_eq_some_iff.1 k1).1
        simp [Array.getD, show k < L.length + 1 by omega] at k3) (fun j o _ hjl => by
      exfalso
      by_cases hj : j < L.length + 1
      · simp [Array.getD, hj] at hjl
      · simp [Array.getD, hj] at hjl) hh.drawn
  have hwp := wp_region_any (id := id) (Q := QT C n (fun tm' mm' => Goes C f n R k tm' mm')) (ops := (L ++ [z]).toArray) (a := a) (w := w) hmix (by simpa using hany)
  obtain ⟨e, a', w', hq, harr⟩ := hwp b k cs
  cases e with
  | normal =>
    obtain ⟨tm', mm', hg, hh'⟩ := hq
    obtain ⟨e, w'', fr, g1, g2, g3⟩ := hg a' w' hh' b cs hb hk
    exact ⟨e, w'', fr, g1, Comes.of_steps harr g2, g3⟩
  | _ => exact hq.elim
end
end Go.Sy
