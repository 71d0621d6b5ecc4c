/- Symbolic states: a region that draws its order: its first part reads, and calls functions that change variables, one behind the other; its last part is done in its order. -/
import Derived.Test.YtdjocfajcbhmgaaDoorSy8
import Derived.Test.YtdjocfajcbhmgaaDoorBu1
set_option linter.unusedSimpArgs false
set_option linter.unusedVariables false
set_option linter.unusedSectionVars false
namespace Go.Sy
open Go.RowKit
def splitM : Nat → List Oper → Option (List Oper × List Oper)
  | 0, l => some ([], l)
  | _ + 1, [] => none
  | m + 1, o :: r => match splitM m r with
    | some (a, s) => some (o :: a, s)
    | none => none
theorem splitM_eq : ∀ {m : Nat} {L A S : List Oper}, splitM m L = some (A, S) → L = A ++ S
  | 0, L, A, S, h => by simp [splitM] at h; obtain ⟨rfl, rfl⟩ := h; rfl
  | m + 1, [], A, S, h => by simp [splitM] at h
  | m + 1, o :: r, A, S, h => by
    unfold splitM at h
    split at h
    · rename_i a s hs
      simp only [Option.some.injEq, Prod.mk.injEq] at h
      obtain ⟨rfl, rfl⟩ := h
      rw [List.cons_append, ← splitM_eq hs]
    · cases h
def seqS : Nat → List Oper → Bool
  | _, [] => true
  | i, o :: r => match memN (ons o.after.toList) (i - 1), allLt (ons o.after.toList) i with
    | true, true => seqS (i + 1) r
    | _, _ => false
theorem seqS_spec : ∀ {l : List Oper} {i : Nat}, seqS i l = true → ∀ (k : Nat) (o : Oper), l[k]? = some o → (i + k - 1) ∈ ons o.after.toList ∧ ∀ q ∈ ons o.after.toList, q < i + k
  | [], _, _, k, o, h => by simp at h
  | a :: l, i, h, k, o, ho => by
    unfold seqS at h
    split at h
    · rename_i h1 h2
      cases k with
      | zero =>
        simp at ho; subst ho
        exact ⟨memN_iff.1 h1, fun q hq => allLt_spec h2 q hq⟩
      | succ k =>
        have := seqS_spec h k o (by simpa using ho)
        rw [show i + 1 + k = i + (k + 1) by omega] at this
        exact this
    · cases h
theorem any_seq {P : Program} {L : List Oper} {Q : Exit → Act → World → Prop} : ∀ (S : List Oper) (m fuel : Nat) (listed : Array Bool) (a : Act) (w : World), L.drop m = S → m ≤ L.length → listed.size = L.length → (∀ k, k < m → listed.getD k false = true) →
    (∀ k, m ≤ k → listed.getD k false = false) → S.length ≤ fuel →
    (∀ (k : Nat) (o : Oper), m < k → L[k]? = some o → (k - 1) ∈ ons o.after.toList) → (∀ (k : Nat) (o : Oper), m ≤ k → L[k]? = some o → ∀ q ∈ ons o.after.toList, q < k) →
    wpList P L.toArray Q S a w → wpAny P .any L.toArray Q fuel listed a w
  | [], m, fuel, listed, a, w, hS, hm, hsz, hd, hu, hf, h1, h2, hw => by
    have hml : m = L.length := by
      have := congrArg List.length hS
      simp at this; omega
    have hr : Region.ready .any L.toArray listed = [] := by
      rw [List.eq_nil_iff_forall_not_mem]
      intro j hj
      obtain ⟨g1, o, g2, _⟩ := mem_ready.1 hj
      have hjl : j < L.length := by simpa using (Array.getElem?_eq_some_iff.1 g2).1
      have hjs : j < listed.size := by omega
      have := hd j (by omega)
      simp [Array.getD, hjs] at g1 this
      rw [this] at g1; cases g1
    cases fuel with
    | zero => exact ⟨hr, hw⟩
    | succ fuel => exact ⟨fun _ => hw, fun i hi => by rw [hr] at hi; cases hi⟩
  | o :: r, m, fuel, listed, a, w, hS, hm, hsz, hd, hu, hf, h1, h2, hw => by
    have hml : m < L.length := by
      rcases Nat.lt_or_ge m L.length with h | h
      · exact h
      · rw [List.drop_eq_nil_of_le h] at hS; cases hS
    have hLm : L[m]? = some o := by
      have := congrArg (fun l => l[0]?) hS
      simpa using this
    have hdr : L.drop (m + 1) = r := by
      have := congrArg List.tail hS
      simpa using this
    cases fuel with
    | zero => simp at hf
    | succ fuel =>
      refine ⟨fun hr => ?_, fun i hi => ?_⟩
      · exfalso
        have : m ∈ Region.ready .any L.toArray listed := by
          rw [mem_ready]
          refine ⟨?_, o, by simpa using hLm, fun e he hb => ?_⟩
          · have hms : m < listed.size := by omega
            have := hu m (Nat.le_refl _)
            simp [Array.getD, hms] at this ⊢; exact this
          · exact hd _ (h2 m o (Nat.le_refl _) hLm _ (ons_mem (by simpa using he) hb))
        rw [hr] at this; cases this
      · obtain ⟨g1, o', g2, g3⟩ := mem_ready.1 hi
        have hil : i < L.length := by simpa using (Array.getElem?_eq_some_iff.1 g2).1
        have his : i < listed.size := by omega
        have hLi : L[i]? = some o' := by simpa using g2
        have him : i = m := by
          rcases Nat.lt_trichotomy i m with h | h | h
          · exfalso
            have := hd i h
            simp [Array.getD, his] at g1 this
            rw [this] at g1; cases g1
          · exact h
          · exfalso
            obtain ⟨e, he, hb, heo⟩ := ons_of (h1 i o' h hLi)
            have := g3 e (by simpa using he) hb
            rw [heo, hu (i - 1) (by omega)] at this; cases this
        subst him
        have hoo : o' = o := by rw [hLm] at hLi; injection hLi with hLi; exact hLi.symm
        subst hoo
        have hrec : ∀ a w, wpList P L.toArray Q r a w → wpAny P .any L.toArray Q fuel (listed.setIfInBounds i true) a w := fun a w hw =>
          any_seq r (i + 1) fuel (listed.setIfInBounds i true) a w hdr (by omega) (by simpa using hsz) (fun k hk => by
              by_cases hki : k = i
              · subst hki; exact getD_set_self his
              · rw [getD_set_ne false (fun e => hki e.symm)]; exact hd k (by omega))
            (fun k hk => by rw [getD_set_ne false (by omega)]; exact hu k (by omega)) (by simp at hf; omega) (fun k o hk ho => h1 k o (by omega) ho) (fun k o hk ho => h2 k o (by omega) ho) hw
        unfold wpList at hw
        unfold wpOp
        simp only [List.getElem?_toArray, hLi]
        split at hw
        · rename_i hwd
          rw [if_pos hwd]
          rcases hw with hw | hw
          · exact .inl (Oper.wp_mono (fun a' w' h' => hrec a' w' h') hw)
          · exact .inr hw
        · rename_i hwd
          rw [if_neg hwd]
          exact hrec _ _ hw
def OkG (C : Ctx) (n : Nat) (L : List Oper) (tm : TM) (Ma Mb : MM) (o : Oper) : Prop :=
  ∃ d s, o.dst = some d ∧ (d, s) ∈ tm ∧
      ∀ tm', Looked L tm o tm' → ∀ (a : Act) (w : World) (K : Act → World → Prop) (Q : Exit → Act → World → Prop), Has C n tm' Ma a w →
        (∀ tm'' a' w', (∀ p ∈ tm', p.1 ≠ d → p ∈ tm'') → (d, s) ∈ tm'' → Has C n tm'' Mb a' w' → K a' w') →
        if Region.wanted o (yielded L.toArray a.tmps) then o.wp C.P a w K Q else K (a.put o.dst undef) w
section
variable {C : Ctx} {n : Nat} {bs : MM} {L : List Oper} {tm0 tm : TM} {l : List Oper} {o : Oper} {d i j : Nat} {s : ST}
theorem OkG.grow {Ma Mb : MM} (h : OkG C n L tm Ma Mb o) (hd : o.dst ≠ some d) (hl : d ∉ looksE L o) : OkG C n L ((d, s) :: delL tm d) Ma Mb o := by
  obtain ⟨d', s', e1, e2, h⟩ := h
  exact ⟨d', s', e1, List.mem_cons_of_mem _ (mem_delL e2 fun e => hd (e ▸ e1)), fun tm' hL => h tm' (hL.back hl)⟩
structure GS (C : Ctx) (n : Nat) (bs : MM) (L : List Oper) (tm0 : TM) (mm : MM) (Es : List Nat) (Ms : List MM) (ahead l : List Oper) (i : Nat) (tm : TM) : Prop where
  ok : ∀ (j : Nat) (o : Oper), j < i → L[j]? = some o → j ∉ Es → OkV C n bs L tm o
  eff : ∀ (k e : Nat) (o : Oper), Es[k]? = some e → L[e]? = some o → ∃ Ma Mb, Ms[k]? = some Ma ∧ Ms[k + 1]? = some Mb ∧ OkG C n L tm Ma Mb o
  elt : ∀ e ∈ Es, e < i
  chain : ∀ (k e f : Nat), Es[k]? = some e → Es[k + 1]? = some f → ∃ o, L[f]? = some o ∧ e ∈ ons o.after.toList
  mlen : Ms.length = Es.length + 1
  mbs : ∀ M ∈ Ms, ∀ q ∈ bs, q ∈ M
  m0 : Ms[0]? = some mm
  keys : ∀ p ∈ tm, ∀ q ∈ tm, p.1 = q.1 → p = q
  base : ∀ p ∈ tm, p.1 ∉ dstsE L → p ∈ tm0
  okr : okR2 L ahead l i = true
  whole : L = ahead.reverse ++ l
  len : ahead.length = i
def GOps (C : Ctx) (n : Nat) (bs : MM) (L : List Oper) (tm0 : TM) (mm : MM) (i : Nat) (l : List Oper) (tm : TM) (cur : MM) (last : Option Nat) (T : TM → MM → Prop) : Prop :=
  ∀ (ahead : List Oper) (Es : List Nat) (Ms : List MM), GS C n bs L tm0 mm Es Ms ahead l i tm → Ms[Es.length]? = some cur → Es.getLast? = last →
    ∃ tmF EsF MsF curF, T tmF curF ∧ GS C n bs L tm0 mm EsF MsF L.reverse [] L.length tmF ∧ MsF[EsF.length]? = some curF
variable {T : TM → MM → Prop} {mm cur : MM} {last : Option Nat}
theorem GOps.nil (h : T tm cur) : GOps C n bs L tm0 mm i [] tm cur last T := fun ahead Es Ms hs hc _ => by
  have hL : L = ahead.reverse := by have := hs.whole; rwa [List.append_nil] at this
  have hi : i = L.length := by rw [hL, List.length_reverse, hs.len]
  have ha : ahead = L.reverse := by rw [hL, List.reverse_reverse]
  subst hi
  rw [← ha]
  exact ⟨tm, Es, Ms, cur, h, hs, hc⟩
theorem GS.here {Es : List Nat} {Ms : List MM} {ahead : List Oper} (hs : GS C n bs L tm0 mm Es Ms ahead (o :: l) i tm) : L[i]? = some o := by
  have h1 := hs.whole
  have h2 : ahead.reverse.length = i := by rw [List.length_reverse, hs.len]
  rw [h1, List.getElem?_append_right (by omega)]
  simp [h2]
theorem GS.before {Es : List Nat} {Ms : List MM} {ahead : List Oper} (hs : GS C n bs L tm0 mm Es Ms ahead (o :: l) i tm) {o' : Oper} (hj : j < i) (h : L[j]? = some o') : o' ∈ ahead := by
  have h1 := hs.whole
  have h2 : ahead.reverse.length = i := by rw [List.length_reverse, hs.len]
  rw [h1, List.getElem?_append_left (by omega)] at h
  simpa using List.mem_of_getElem? h
theorem GS.next {Es : List Nat} {Ms : List MM} {ahead : List Oper} (hs : GS C n bs L tm0 mm Es Ms ahead (o :: l) i tm) (hd : o.dst = some d) (hok : d ∉ looksE L o → OkV C n bs L ((d, s) :: delL tm d) o) :
    GS C n bs L tm0 mm Es Ms (o :: ahead) l (i + 1) ((d, s) :: delL tm d) := by
  obtain ⟨h2, h3, h4, h5⟩ := okR2_cons hs.okr
  obtain ⟨h6, h7⟩ := h5 d hd
  have hin : o ∈ L := by rw [hs.whole]; simp
  refine ⟨fun j o' hj ho' hjE => ?_, fun k e o' he ho' => ?_, fun e he => Nat.lt_succ_of_lt (hs.elt e he), hs.chain, hs.mlen, hs.mbs, hs.m0, keys_set hs.keys, fun p hp hn => ?_, h4, by rw [hs.whole]; simp, by simp [hs.len]⟩
  · by_cases hji : j = i
    · subst hji
      rw [hs.here] at ho'; injection ho' with ho'; subst ho'
      exact hok h7
    · have hjl : j < i := by omega
      obtain ⟨k1, k2⟩ := freeE2_spec h6 o' (hs.before hjl ho')
      exact (hs.ok j o' hjl ho' hjE).grow k1 k2
  · obtain ⟨Ma, Mb, g1, g2, g3⟩ := hs.eff k e o' he ho'
    obtain ⟨k1, k2⟩ := freeE2_spec h6 o' (hs.before (hs.elt e (List.mem_of_getElem? he)) ho')
    exact ⟨Ma, Mb, g1, g2, g3.grow k1 k2⟩
  · rcases List.mem_cons.1 hp with rfl | hp
    · exact absurd (dstsE_mem hin hd) hn
    · exact hs.base p (delL_mem hp).1 hn
theorem GOps.step (hg : guardL L (onlyE (looksE L o) tm) o = some true)
    (h : ∀ mm', (∀ q ∈ bs, q ∈ mm') → (∀ p ∈ mm', ∀ q ∈ mm', p.1 = q.1 → p = q) → OpX C n mm' o (onlyE (looksE L o) tm) d s) (hd : o.dst = some d)
    (k : GOps C n bs L tm0 mm (i + 1) l ((d, s) :: delL tm d) cur last T) : GOps C n bs L tm0 mm i (o :: l) tm cur last T := fun ahead Es Ms hs hc hl =>
  k _ Es Ms (hs.next hd fun hlk => ⟨d, s, hd, List.mem_cons_self, fun tm' mm' hL hb a w K Q hh hK => by
    have hL' : Looked L tm o tm' := hL.back hlk
    rw [if_pos (guard_looked hg hL' hh)]
    exact (h mm' hb (has_uniq hh)).2 tm' (fun p hp => hL' p (onlyE_mem.1 hp).1 (onlyE_mem.1 hp).2) a w K Q hh hK⟩) hc hl
theorem GOps.skip (hg : guardL L (onlyE (looksE L o) tm) o = some false) (hd : o.dst = some d) (hn : Nat.blt d n = true)
    (k : GOps C n bs L tm0 mm (i + 1) l ((d, .tup []) :: delL tm d) cur last T) : GOps C n bs L tm0 mm i (o :: l) tm cur last T := fun ahead Es Ms hs hc hl =>
  k _ Es Ms (hs.next hd fun hlk => ⟨d, _, hd, List.mem_cons_self, fun tm' mm' hL hb a w K Q hh hK => by
    have hL' : Looked L tm o tm' := hL.back hlk
    rw [if_neg (by rw [guard_looked hg hL' hh]; simp)]
    obtain ⟨H, Z, hm⟩ := hh
    rw [hd]
    exact hK _ _ ⟨H, Z, hm.setT (Nat.blt_eq.mp hn) ⟨#[], rfl, rfl, fun j c hc => by simp at hc⟩⟩⟩) hc hl
def lastE (af : List Nat) : Option Nat → Bool
  | none => true
  | some e => memN af e
theorem GOps.eff {cur' : MM} (hg : guardL L (onlyE (looksE L o) tm) o = some true) (h : ∀ tm', OpW C n o (onlyE (looksE L o) tm ++ tm') cur ((d, s) :: delL (onlyE (looksE L o) tm ++ tm') d) cur')
    (hd : o.dst = some d) (hla : lastE (ons o.after.toList) last = true) (hb : ∀ q ∈ bs, q ∈ cur')
    (k : GOps C n bs L tm0 mm (i + 1) l ((d, s) :: delL tm d) cur' (some i) T) : GOps C n bs L tm0 mm i (o :: l) tm cur last T := fun ahead Es Ms hs hc hl => by
  obtain ⟨h2, h3, h4, h5⟩ := okR2_cons hs.okr
  obtain ⟨h6, h7⟩ := h5 d hd
  have hin : o ∈ L := by rw [hs.whole]; simp
  have hml := hs.mlen
  refine k (o :: ahead) (Es ++ [i]) (Ms ++ [cur']) ⟨fun j o' hj ho' hjE => ?_, fun q e o' he ho' => ?_, fun e he => ?_, fun q e f he hf => ?_, by simp [hml], fun M hM q hq => ?_, ?_, keys_set hs.keys, fun p hp hn => ?_, h4, by rw [hs.whole]; simp, by simp [hs.len]⟩ ?_ (by simp)
  · have hji : j ≠ i := fun e => hjE (by rw [e]; simp)
    have hjl : j < i := by omega
    obtain ⟨k1, k2⟩ := freeE2_spec h6 o' (hs.before hjl ho')
    exact (hs.ok j o' hjl ho' (fun h => hjE (List.mem_append_left _ h))).grow k1 k2
  · rcases Nat.lt_or_ge q Es.length with hq | hq
    · rw [List.getElem?_append_left hq] at he
      obtain ⟨Ma, Mb, g1, g2, g3⟩ := hs.eff q e o' he ho'
      obtain ⟨k1, k2⟩ := freeE2_spec h6 o' (hs.before (hs.elt e (List.mem_of_getElem? he)) ho')
      exact ⟨Ma, Mb, by rw [List.getElem?_append_left (by omega)]; exact g1, by rw [List.getElem?_append_left (by omega)]; exact g2, g3.grow k1 k2⟩
    · have hqe : q = Es.length := by
        have := (List.getElem?_eq_some_iff.1 he).1
        simp at this; omega
      subst hqe
      rw [List.getElem?_append_right (Nat.le_refl _)] at he
      simp at he; subst he
      rw [hs.here] at ho'; injection ho' with ho'; subst ho'
      refine ⟨cur, cur', by rw [List.getElem?_append_left (by omega)]; exact hc, by rw [List.getElem?_append_right (by omega)]; simp [hml], d, s, hd, List.mem_cons_self, fun tm' hL a w K Q hh hK => ?_⟩
      have hL' : Looked L tm o tm' := hL.back h7
      rw [if_pos (guard_looked hg hL' hh)]
      refine h tm' a w K Q (hh.incl fun p hp => ?_) fun a' w' h' => hK _ a' w' (fun p hp hpd => ?_) List.mem_cons_self h'
      · rcases List.mem_append.1 hp with hp | hp
        · exact hL' p (onlyE_mem.1 hp).1 (onlyE_mem.1 hp).2
        · exact hp
      · exact List.mem_cons_of_mem _ (mem_delL (List.mem_append_right _ hp) hpd)
  · rcases List.mem_append.1 he with he | he
    · exact Nat.lt_succ_of_lt (hs.elt e he)
    · simp at he; omega
  · rcases Nat.lt_or_ge (q + 1) Es.length with hq | hq
    · rw [List.getElem?_append_left (by omega)] at he
      rw [List.getElem?_append_left hq] at hf
      exact hs.chain q e f he hf
    · have hqe : q + 1 = Es.length := by
        have := (List.getElem?_eq_some_iff.1 hf).1
        simp at this; omega
      rw [List.getElem?_append_right (by omega)] at hf
      rw [List.getElem?_append_left (by omega)] at he
      have : f = i := by simp [hqe] at hf; exact hf.symm
      subst this
      refine ⟨o, hs.here, ?_⟩
      have hle : Es.getLast? = some e := by rw [List.getLast?_eq_getElem?, show Es.length - 1 = q by omega]; exact he
      rw [← hl, hle] at hla
      exact memN_iff.1 hla
  · rcases List.mem_append.1 hM with hM | hM
    · exact hs.mbs M hM q hq
    · simp at hM; subst hM; exact hb q hq
  · rw [List.getElem?_append_left (by omega)]; exact hs.m0
  · rcases List.mem_cons.1 hp with rfl | hp
    · exact absurd (dstsE_mem hin hd) hn
    · exact hs.base p (delL_mem hp).1 hn
  · rw [List.getElem?_append_right (by simp; omega)]
    simp [hml]
theorem wanted_appS {S : List Oper} {o : Oper} {a : Act} (h : ∀ j b, o.guard = some (j, b) → j < L.length) : Region.wanted o (yielded (L ++ S).toArray a.tmps) = Region.wanted o (yielded L.toArray a.tmps) := by
  unfold Region.wanted
  split
  · rfl
  · rename_i j want hg
    have hj := h j want hg
    have : yielded (L ++ S).toArray a.tmps j = yielded L.toArray a.tmps j := by
      unfold yielded
      simp [List.getElem?_append_left hj]
    rw [this]
theorem any_G {S : List Oper} {z : Oper} {Es : List Nat} {Ms : List MM} {tmF : TM} {P : TM → MM → Prop} {curF : MM} (hs : GS C n bs L tm0 mm Es Ms L.reverse [] L.length tmF) (hcF : Ms[Es.length]? = some curF) (hok : okR2 L [] L 0 = true)
    (hz : S[0]? = some z) (hcov : ∀ k, k < L.length → k ∈ ons z.after.toList ∨ ∃ o ∈ L, k ∈ ons o.after.toList)
    (hsq : ∀ (k : Nat) (o : Oper), 0 < k → S[k]? = some o → (L.length + k - 1) ∈ ons o.after.toList) (hslt : ∀ (k : Nat) (o : Oper), S[k]? = some o → ∀ q ∈ ons o.after.toList, q < L.length + k)
    (hgd : ∀ o ∈ L, ∀ j b, o.guard = some (j, b) → j < L.length) (hP : SOps C n (L ++ S).toArray S tmF curF P) :
    ∀ (fuel : Nat) (listed : Array Bool) (k : Nat) (M : MM) (a : Act) (w : World) (tm : TM), listed.size = (L ++ S).length → (∀ j, L.length ≤ j → listed.getD j false = false) → (listed.toList.filter (!·)).length ≤ fuel → (∀ p, keepT L listed tmF p → p ∈ tm) →
      (∀ j e, Es[j]? = some e → (listed.getD e false = true ↔ j < k)) → k ≤ Es.length → (∀ j o, L[j]? = some o → listed.getD j false = true → ∀ i ∈ ons o.after.toList, listed.getD i false = true) → Ms[k]? = some M → Has C n tm M a w →
      wpAny C.P .any (L ++ S).toArray (QT C n P) fuel listed a w := by
  have hSl : 0 < S.length := (List.getElem?_eq_some_iff.1 hz).1
  have hLz : (L ++ S)[L.length]? = some z := by rw [List.getElem?_append_right (Nat.le_refl _)]; simpa using hz
  have hLk : ∀ k, k < L.length → (L ++ S)[k]? = L[k]? := fun k hk => List.getElem?_append_left hk
  have hafter : ∀ (k : Nat) (o : Oper), L[k]? = some o → ∀ q ∈ ons o.after.toList, q < k := fun k o ho q hq => by
    obtain ⟨_, h3⟩ := okR2_get hok k o ho
    have := allLt_spec h3 q hq; omega
  have hmono : ∀ p q (hp : p < Es.length) (hq : q < Es.length), p < q → Es[p] < Es[q] := by
    intro p q hp hq hpq
    induction q with
    | zero => omega
    | succ q ihq =>
      obtain ⟨o', ho', hon'⟩ := hs.chain q _ _ (List.getElem?_eq_getElem (by omega)) (List.getElem?_eq_getElem hq)
      have hlt := hafter _ o' ho' _ hon'
      by_cases hpq' : p = q
      · subst hpq'; omega
      · have := ihq (by omega) (by omega); omega
  intro fuel
  induction fuel with
  | zero =>
    intro listed k M a w tm hsz hun hc hk hst hkl hdn hMk hh
    exfalso
    have hm : false ∈ listed.toList.filter (!·) := by
      rw [List.mem_filter]
      have hls : L.length < listed.size := by rw [hsz, List.length_append]; omega
      have : listed[L.length] = false := by have := hun L.length (Nat.le_refl _); simpa [Array.getD, hls] using this
      exact ⟨by rw [← this]; simp, rfl⟩
    have := List.length_pos_of_mem hm
    omega
  | succ fuel ih =>
    intro listed k M a w tm hsz hun hc hk hst hkl hdn hMk hh
    have hszL : listed.size = L.length + S.length := by rw [hsz, List.length_append]
    by_cases hall : ∀ j, j < L.length → listed.getD j false = true
    · -- the last part
      have hka : k = Es.length := by
        rcases Nat.lt_or_ge k Es.length with h | h
        · have he : Es[k]? = some Es[k] := List.getElem?_eq_getElem h
          have := (hst k _ he).1 (hall _ (hs.elt _ (List.getElem_mem h)))
          omega
        · omega
      subst hka
      have hMe : M = curF := by rw [hcF] at hMk; injection hMk with hMk; exact hMk.symm
      subst hMe
      have hF' : Has C n tmF M a w := hh.incl fun p hp => hk p ⟨hp, by
        by_cases hd : p.1 ∈ dstsE L
        · obtain ⟨k, o, h1, h2⟩ := dstsE_get hd
          exact .inr ⟨k, o, h1, h2, hall k (List.getElem?_eq_some_iff.1 h1).1⟩
        · exact .inl hd⟩
      refine any_seq S L.length (fuel + 1) listed a w (by simp) (by simp) hsz hall hun ?_ (fun k o hk ho => ?_) (fun k o hk ho => ?_) (hP a w hF')
      · refine Nat.le_trans ?_ hc
        have h1 : (listed.toList.drop L.length).filter (!·) = listed.toList.drop L.length := by
          rw [List.filter_eq_self]
          intro x hx
          obtain ⟨j, hj, rfl⟩ := List.mem_iff_getElem.1 hx
          simp only [List.length_drop, Array.length_toList] at hj
          rw [List.getElem_drop]
          have := hun (L.length + j) (by omega)
          have hjs : L.length + j < listed.size := by omega
          simp [Array.getD, hjs] at this
          simpa using this
        have h2 : ((listed.toList.drop L.length).filter (!·)).length ≤ (listed.toList.filter (!·)).length := ((List.drop_sublist _ _).filter _).length_le
        rw [h1, List.length_drop, Array.length_toList] at h2
        omega
      · rw [List.getElem?_append_right (by omega)] at ho
        have := hsq (k - L.length) o (by omega) ho
        rwa [show L.length + (k - L.length) - 1 = k - 1 by omega] at this
      · rw [List.getElem?_append_right (by omega)] at ho
        intro q hq
        have := hslt (k - L.length) o ho q hq
        omega
    · -- the first part
      have hnz : L.length ∉ Region.ready .any (L ++ S).toArray listed := fun hi => by
        refine hall fun j hj => ?_
        obtain ⟨_, o, h2, h3⟩ := mem_ready.1 hi
        have hoz : o = z := by
          have : (L ++ S)[L.length]? = some o := by simpa using h2
          rw [hLz] at this; injection this with this; exact this.symm
        subst hoz
        have key : ∀ m, ∀ k, k + m = L.length → 0 < m → listed.getD k false = true := by
          intro m
          induction m using Nat.strongRecOn with
          | _ m ihm =>
            intro k hkm hm0
            rcases hcov k (by omega) with hkz | ⟨o', ho', hko⟩
            · obtain ⟨e, he, hb, heo⟩ := ons_of hkz
              have := h3 e (by simpa using he) hb
              rwa [heo] at this
            · obtain ⟨j, hj, hjo⟩ := List.mem_iff_getElem.1 ho'
              have hLj : L[j]? = some o' := by rw [List.getElem?_eq_getElem hj, hjo]
              have hlt' := hafter j o' hLj k hko
              exact hdn j o' hLj (ihm (L.length - j) (by omega) j (by omega) (by omega)) k hko
        exact key (L.length - j) j (by omega) (by omega)
      refine ⟨fun hr => ?_, fun i hi => ?_⟩
      · exfalso
        refine hall fun k => ?_
        induction k using Nat.strongRecOn with
        | _ k ihk =>
          intro hkl'
          cases hl : listed.getD k false with
          | true => rfl
          | false =>
            have hmem : k ∈ Region.ready .any (L ++ S).toArray listed := by
              rw [mem_ready]
              refine ⟨?_, L[k], by rw [List.getElem?_toArray, hLk k hkl', List.getElem?_eq_getElem hkl'], fun e he hb => ?_⟩
              · have hks : k < listed.size := by omega
                simp [Array.getD, hks] at hl ⊢; exact hl
              · have h4 := ons_mem (l := L[k].after.toList) (by simpa using he) hb
                have h5 := hafter k L[k] (List.getElem?_eq_getElem hkl') _ h4
                exact ihk e.on h5 (by omega)
            rw [hr] at hmem; cases hmem
      obtain ⟨h1, o, h2, h3⟩ := mem_ready.1 hi
      have hil : i < (L ++ S).length := by simpa using (Array.getElem?_eq_some_iff.1 h2).1
      have his : i < listed.size := by omega
      have hfalse : listed[i] = false := by simpa [Array.getD, his] using h1
      have hfalse' : listed.getD i false = false := by simpa [Array.getD, his] using hfalse
      have hon : ∀ j, j ∈ ons o.after.toList → listed.getD j false = true := by
        intro j hj
        obtain ⟨e, he, hb, heo⟩ := ons_of hj
        have := h3 e (by simpa using he) hb
        rwa [heo] at this
      have hiL : i < L.length := by
        rcases Nat.lt_trichotomy i L.length with h | h | h
        · exact h
        · exact absurd (h ▸ hi) hnz
        · exfalso
          have ho : S[i - L.length]? = some o := by
            have : (L ++ S)[i]? = some o := by simpa using h2
            rwa [List.getElem?_append_right (by omega)] at this
          have := hon _ (hsq (i - L.length) o (by omega) ho)
          rw [show L.length + (i - L.length) - 1 = i - 1 by omega, hun (i - 1) (by omega)] at this; cases this
      have hL : L[i]? = some o := by
        have : (L ++ S)[i]? = some o := by simpa using h2
        rwa [hLk i hiL] at this
      obtain ⟨hw, _⟩ := okR2_get hok i o hL
      have hpre : Looked L tmF o tm := by
        intro p hp hl
        refine hk p ⟨hp, ?_⟩
        by_cases hd : p.1 ∈ dstsE L
        · obtain ⟨k, o', k1, k2⟩ := dstsE_get hd
          have := waitE_spec hw k o' p.1 k1 k2 hl
          exact .inr ⟨k, o', k1, k2, hon k (by simpa using this)⟩
        · exact .inl hd
      have hcount : ((listed.setIfInBounds i true).toList.filter (!·)).length ≤ fuel := by
        have h5 : ((listed.setIfInBounds i true).toList.filter (!·)).length + 1 = (listed.toList.filter (!·)).length := by
          rw [show (listed.setIfInBounds i true).toList = listed.toList.set i true by simp]
          exact count_set (by simp [his, hfalse])
        omega
      have hsz' : (listed.setIfInBounds i true).size = (L ++ S).length := by simpa using hsz
      have other : ∀ k, k ≠ i → (listed.setIfInBounds i true).getD k false = listed.getD k false := fun k hk => getD_set_ne false (Ne.symm hk)
      have hself : (listed.setIfInBounds i true).getD i false = true := getD_set_self his
      have hun' : ∀ j, L.length ≤ j → (listed.setIfInBounds i true).getD j false = false := fun j hj => by rw [other j (by omega)]; exact hun j hj
      have hdn' : ∀ j o, L[j]? = some o → (listed.setIfInBounds i true).getD j false = true → ∀ q ∈ ons o.after.toList, (listed.setIfInBounds i true).getD q false = true := by
        intro j o' ho' hj q hq
        have hq' : listed.getD q false = true := by
          by_cases hji : j = i
          · subst hji
            rw [hL] at ho'; injection ho' with ho'; subst ho'
            exact hon q hq
          · rw [other j hji] at hj
            exact hdn j o' ho' hj q hq
        by_cases hqi : q = i
        · rw [hqi]; exact hself
        · rw [other q hqi]; exact hq'
      have hkeep : ∀ (d : Nat) (s : ST) (tm' : TM), o.dst = some d → (d, s) ∈ tmF → (∀ p ∈ tm, p.1 ≠ d → p ∈ tm') → (d, s) ∈ tm' → ∀ p, keepT L (listed.setIfInBounds i true) tmF p → p ∈ tm' := by
        rintro d s tm' e1 e2 ht hs' p ⟨g1, g2⟩
        by_cases hpd : p.1 = d
        · have : p = (d, s) := hs.keys p g1 (d, s) e2 hpd
          rw [this]; exact hs'
        · refine ht p (hk p ⟨g1, ?_⟩) hpd
          rcases g2 with g2 | ⟨q, o', q1, q2, q3⟩
          · exact .inl g2
          · refine .inr ⟨q, o', q1, q2, ?_⟩
            have hqi : q ≠ i := by
              intro e; subst e
              rw [hL] at q1; injection q1 with q1; subst q1
              rw [e1] at q2; injection q2 with q2; exact hpd q2.symm
            rwa [other q hqi] at q3
      unfold wpOp
      have h2' : (L ++ S)[i]? = some o := by simpa using h2
      simp only [List.getElem?_toArray, h2']
      have fin : ∀ {K : Prop} {W : Prop} [Decidable W] {A B : Prop}, (if W then A else K) → (if W then A ∨ B else K) := by
        intro K W _ A B h
        split
        · rename_i hw; rw [if_pos hw] at h; exact .inl h
        · rename_i hw; rw [if_neg hw] at h; exact h
      refine fin ?_
      rw [wanted_appS (S := S) (a := a) (hgd o (List.mem_of_getElem? hL))]
      by_cases hiE : i ∈ Es
      · obtain ⟨j, hj, hji⟩ := List.mem_iff_getElem.1 hiE
        have hEj : Es[j]? = some i := by rw [List.getElem?_eq_getElem hj, hji]
        have hjk : j = k := by
          have g1 : ¬ j < k := fun h => by
            have := (hst j i hEj).2 h
            rw [hfalse'] at this; cases this
          rcases Nat.lt_trichotomy j k with h | h | h
          · exact absurd h g1
          · exact h
          · exfalso
            obtain ⟨j', rfl⟩ : ∃ j', j = j' + 1 := ⟨j - 1, by omega⟩
            obtain ⟨o', ho', hon'⟩ := hs.chain j' _ _ (List.getElem?_eq_getElem (by omega)) hEj
            rw [hL] at ho'; injection ho' with ho'; subst ho'
            have := (hst j' _ (List.getElem?_eq_getElem (by omega))).1 (hon _ hon')
            omega
        subst hjk
        obtain ⟨Ma, Mb, g1, g2, d, s, e1, e2, h⟩ := hs.eff j i o hEj hL
        have hMa : M = Ma := by rw [g1] at hMk; injection hMk with hMk; exact hMk.symm
        subst hMa
        refine h tm hpre a w _ _ hh fun tm' a' w' ht hs' h' => ih _ (j + 1) Mb a' w' tm' hsz' hun' hcount (hkeep d s tm' e1 e2 ht hs') (fun j' e' he' => ?_) (by omega) hdn' g2 h'
        by_cases he : e' = i
        · subst he
          have hjj : j' = j := by
            obtain ⟨hj', hje'⟩ := List.getElem?_eq_some_iff.1 he'
            rcases Nat.lt_trichotomy j' j with h | h | h
            · have := hmono _ _ hj' hj h; omega
            · exact h
            · have := hmono _ _ hj hj' h; omega
          subst hjj
          simp [hself]
        · rw [other _ he]
          have := hst j' e' he'
          have hne : j' ≠ j := fun e => he (by subst e; rw [hEj] at he'; injection he' with he'; exact he'.symm)
          rw [this]; omega
      · obtain ⟨d, s, e1, e2, h⟩ := hs.ok i o hiL hL hiE
        refine h tm M hpre (hs.mbs M (List.mem_of_getElem? hMk)) a w _ _ hh fun a' w' h' => ih _ k M a' w' _ hsz' hun' hcount (hkeep d s _ e1 e2 (fun p hp hpd => List.mem_cons_of_mem _ (mem_delL hp hpd)) List.mem_cons_self) (fun j' e' he' => ?_) hkl hdn' hMk h'
        rw [other _ (fun q => hiE (by rw [← q]; exact List.mem_of_getElem? he'))]
        exact hst j' e' he'
theorem g_drawS (m : Nat) (ids : List Nat) {Lf A S : List Oper} {z : Oper} {f : FuncId} {R : Ending → World → Prop} {k : List Item} {id : Nat} {tm : TM} {mm : MM} (hmix : C.P.follows .mixedOrders = true) (hsp : splitM m Lf = some (A, S)) (hok : okR2 A [] A 0 = true) (hu : uniT (dstsE A) (cutT (dstsE A) tm) = true)
    (hz : nthO S 0 = some z) (hcov : covE2 A (ons z.after.toList) A.length = true) (hzl : allLt (ons z.after.toList) A.length = true) (hsq : seqS (A.length + 1) S.tail = true) (hgd : guardsE A.length A = true)
    (h : GOps C n (outM ids mm) A (cutT (dstsE A) tm) mm 0 A (cutT (dstsE A) tm) mm none (fun tmF cur => SOps C n Lf.toArray S tmF cur (fun tm'' mm'' => Goes C f n R k tm'' mm''))) : Goes C f n R (.code (.region id Lf.toArray true) :: k) tm mm := by
  have hLf := splitM_eq hsp
  subst hLf
  obtain ⟨u1, u2⟩ := uniT_spec hu
  have hs0 : GS C n (outM ids mm) A (cutT (dstsE A) tm) mm [] [mm] [] A 0 (cutT (dstsE A) tm) :=
    { ok := fun j o hj => by omega
      eff := fun k e o he => by simp at he
      elt := fun e he => by cases he
      chain := fun k e f he => by simp at he
      mlen := rfl
      mbs := fun M hM q hq => by
        rw [List.mem_singleton.1 hM]
        exact (outM_mem.1 hq).1
      m0 := rfl
      keys := u2
      base := fun p hp _ => hp
      okr := hok
      whole := rfl
      len := rfl }
  obtain ⟨tmF, Es, Ms, curF, hg, hs, hcF⟩ := h [] [] [mm] hs0 rfl rfl
  intro a w hh0 b cs hb hk
  have hh : Has C n (cutT (dstsE A) tm) mm a w := hh0.incl fun _ hp => cutT_mem hp
  have hz' : S[0]? = some z := by rw [← nthO_get]; exact hz
  have hnone : ∀ k, (Array.replicate (A ++ S).length false).getD k false = false := fun k => by
    by_cases hk : k < (A ++ S).length
    · simp [Array.getD, List.length_append] 
    · simp [Array.getD, List.length_append]
  have htl : ∀ (k : Nat) (o : Oper), 0 < k → S[k]? = some o → S.tail[k - 1]? = some o := fun k o hk ho => by
    rw [List.getElem?_tail, show k - 1 + 1 = k by omega]; exact ho
  have hany := any_G (z := z) (P := fun tm' mm' => Goes C f n R k tm' mm') hs hcF hok hz' (covE2_spec hcov) (fun k o hk ho => by
      have := (seqS_spec hsq (k - 1) o (htl k o hk ho)).1
      rwa [show A.length + 1 + (k - 1) - 1 = A.length + k - 1 by omega] at this)
    (fun k o ho q hq => by
      by_cases hk : k = 0
      · subst hk
        rw [hz'] at ho; injection ho with ho; subst ho
        have := allLt_spec hzl q hq; omega
      · have := (seqS_spec hsq (k - 1) o (htl k o (by omega) ho)).2 q hq
        omega)
    (guardsE_spec hgd) hg (A ++ S).length (Array.replicate (A ++ S).length false) 0 mm a { w with drawn := w.drawn + 1 } (cutT (dstsE A) tm) (by simp) (fun j _ => hnone j)
    (by rw [show (Array.replicate (A ++ S).length false).toList = List.replicate (A ++ S).length false by simp]; exact Nat.le_trans (List.length_filter_le _ _) (by simp))
    (fun p hp => by
      obtain ⟨g1, g2 | ⟨k, o, k1, k2, k3⟩⟩ := hp
      · exact hs.base p g1 g2
      · rw [hnone k] at k3; cases k3)
    (fun j e _ => by rw [hnone e]; simp) (Nat.zero_le _) (fun j o _ hj => by rw [hnone j] at hj; cases hj) hs.m0 hh.drawn
  have hwp := wp_region_any (id := id) (Q := QT C n (fun tm' mm' => Goes C f n R k tm' mm')) (ops := (A ++ S).toArray) (a := a) (w := w) hmix (by simpa using hany)
  obtain ⟨e, a', w', hq, harr⟩ := hwp b k cs
  cases e with
  | normal =>
    obtain ⟨tm', mm', hg, hh'⟩ := hq
    obtain ⟨e, w'', fr, g1, g2, g3⟩ := hg a' w' hh' b cs hb hk
    exact ⟨e, w'', fr, g1, Comes.of_steps harr g2, g3⟩
  | _ => exact hq.elim
inductive OutG where
  | stop (i : Nat) (l : List Oper) (tm : TM)
def goG (Θ : Tab) (n : Nat) (bs : MM) (L : List Oper) : Nat → List Oper → TM → OutG
  | i, [], tm => .stop i [] tm
  | i, o :: r, tm => match guardL L (onlyE (looksE L o) tm) o with
      | some true => match o.dst with
        | some d => match valE Θ (onlyE (looksE L o) tm) bs o.op with
          | some st => match setE n d st tm with
            | some tm' => goG Θ n bs L (i + 1) r tm'
            | none => .stop i (o :: r) tm
          | none => .stop i (o :: r) tm
        | none => .stop i (o :: r) tm
      | some false => match o.dst with
        | some d => match setE n d (.tup []) tm with
          | some tm' => goG Θ n bs L (i + 1) r tm'
          | none => .stop i (o :: r) tm
        | none => .stop i (o :: r) tm
      | none => .stop i (o :: r) tm
theorem goG_sound {Θ : Tab} (hΘ : tabOK C.P Θ) : ∀ {l : List Oper} {i : Nat} {tm : TM} {i' : Nat} {l' : List Oper} {tm' : TM},
    goG Θ n bs L i l tm = .stop i' l' tm' → GOps C n bs L tm0 mm i' l' tm' cur last T → GOps C n bs L tm0 mm i l tm cur last T
  | [], i, tm, i', l', tm', h, k => by
    simp only [goG, OutG.stop.injEq] at h
    obtain ⟨rfl, rfl, rfl⟩ := h
    exact k
  | o :: r, i, tm, i', l', tm', h, k => by
    have same : OutG.stop i (o :: r) tm = .stop i' l' tm' → GOps C n bs L tm0 mm i (o :: r) tm cur last T := by
      intro e
      injection e with e1 e2 e3
      subst e1 e2 e3
      exact k
    unfold goG at h
    split at h
    · rename_i hg
      split at h
      · rename_i d hd
        split at h
        · rename_i st hv
          split at h
          · rename_i tm1 hs
            obtain ⟨hn, rfl⟩ := setE_eq hs
            exact GOps.step hg (fun mm' hb hu => (valE_sound hΘ (valE_monoM (mono_get hb hu) hv) hd hn).toX) hd (goG_sound hΘ h k)
          · exact same h
        · exact same h
      · exact same h
    · rename_i hg
      split at h
      · rename_i d hd
        split at h
        · rename_i tm1 hs
          obtain ⟨hn, rfl⟩ := setE_eq hs
          exact GOps.skip hg hd hn (goG_sound hΘ h k)
        · exact same h
      · exact same h
    · exact same h
def runG (Θ : Tab) (n : Nat) (bs : MM) (L : List Oper) (i : Nat) (l : List Oper) (tm : TM) : Option OutG :=
  match nrmT tm with
  | some tm' => some (goG Θ n bs L i l tm')
  | none => none
theorem grun_ {Θ : Tab} (hΘ : tabOK C.P Θ) {i' : Nat} {l' : List Oper} {tm' : TM} (h : runG Θ n bs L i l tm = some (.stop i' l' tm')) (k : GOps C n bs L tm0 mm i' l' tm' cur last T) : GOps C n bs L tm0 mm i l tm cur last T := by
  unfold runG at h
  split at h
  · rename_i tm1 h1
    rw [← nrmT_eq h1]
    injection h with h
    exact goG_sound hΘ h k
  · cases h
variable {p q : Operand} {ty ty' : TypeId}
theorem q_step {st : ST} (h : ∀ mm', OpV C n o (onlyE (looksE L o) tm) mm' d st) (hg : guardL L (onlyE (looksE L o) tm) o = some true) (hd : o.dst = some d)
    (k : GOps C n bs L tm0 mm (i + 1) l ((d, st) :: delL tm d) cur last T) : GOps C n bs L tm0 mm i (o :: l) tm cur last T := GOps.step hg (fun mm' _ _ => (h mm').toX) hd k
theorem q_idx {Θ : Tab} (hΘ : tabOK C.P Θ) {nn : Bool} {sz : Nat} {xs : List (List CT)} {kd : IntKind} {m : Int} {e : Nat} {z bts : Nat} {ag : Bool} {zr : Option (List CT)} {ei : TyI}
    (ho : o.op = .indexAddr ty p q) (ht : tyGet Θ ty = some ⟨z, bts, ag, zr, .slice e⟩) (hei : tyGet Θ e = some ei) (hx : evalC (onlyE (looksE L o) tm) p = some (.c (.slice nn sz xs))) (hsz : Nat.beq ei.size sz = true)
    (hi : evalC (onlyE (looksE L o) tm) q = some (.c (.int kd m))) (hd : o.dst = some d) (hn : Nat.blt d n = true) (hg : guardL L (onlyE (looksE L o) tm) o = some true)
    (j : Nat) (cs : List CT) (hm : m = (j : Int)) (hj : xs[j]? = some cs) (k : GOps C n bs L tm0 mm (i + 1) l ((d, .v (.one (.eptr cs))) :: delL tm d) cur last T) : GOps C n bs L tm0 mm i (o :: l) tm cur last T :=
  q_step (fun mm' => op_idx hΘ ho ht hei hsz hx hi hm hj hd hn) hg hd k
theorem q_add {a b : Int} (ho : o.op = .binOp .add ty p q ty') (hx : evalC (onlyE (looksE L o) tm) p = some (.c (.int .i64 a))) (hy : evalC (onlyE (looksE L o) tm) q = some (.c (.int .i64 b))) (hd : o.dst = some d) (hn : Nat.blt d n = true) (hg : guardL L (onlyE (looksE L o) tm) o = some true)
    (hr : -9223372036854775808 ≤ a + b ∧ a + b ≤ 9223372036854775807) (k : GOps C n bs L tm0 mm (i + 1) l ((d, .v (.one (.c (.int .i64 (a + b))))) :: delL tm d) cur last T) : GOps C n bs L tm0 mm i (o :: l) tm cur last T :=
  q_step (fun mm' => op_arith (p := .add) ho hx hy (IntWalk.i64_in _ hr) hd hn) hg hd k
theorem q_rem {kd : IntKind} {a b : Int} (ho : o.op = .binOp .rem ty p q ty') (hx : evalC (onlyE (looksE L o) tm) p = some (.c (.int kd a))) (hy : evalC (onlyE (looksE L o) tm) q = some (.c (.int kd b))) (hd : o.dst = some d) (hn : Nat.blt d n = true) (hg : guardL L (onlyE (looksE L o) tm) o = some true)
    (hr : b ≠ 0) (k : GOps C n bs L tm0 mm (i + 1) l ((d, .v (.one (.c (.int kd (a.tmod b))))) :: delL tm d) cur last T) : GOps C n bs L tm0 mm i (o :: l) tm cur last T :=
  q_step (fun mm' => op_arith (p := .rem) ho hx hy ⟨hr, rfl⟩ hd hn) hg hd k
theorem q_call {g : FuncId} {args args' : List SV} {res : ST} (hc : Con C.P g [] args res []) {xs : Array Operand} {ts : Array TypeId}
    (ho : o.op = .call { callee := .value (.func g), args := xs, argTypes := ts }) (hargs : evalArgs (onlyE (looksE L o) tm) xs.toList = some args') (hren : renVs [] args = some args')
    (hpure : pureS res = true) (hd : o.dst = some d) (hn : Nat.blt d n = true) (hg : guardL L (onlyE (looksE L o) tm) o = some true)
    (k : GOps C n bs L tm0 mm (i + 1) l ((d, res) :: delL tm d) cur last T) : GOps C n bs L tm0 mm i (o :: l) tm cur last T :=
  GOps.step hg (fun mm' _ _ => op_callX hc [] ho hargs hren rfl rfl rfl hpure hd hn rfl) hd k
theorem q_lit {Θ : Tab} (hΘ : tabOK C.P Θ) {t : TypeId} {z bts e len : Nat} {ag : Bool} {zt : Option (List CT)} {ei : TyI} {zr : List CT} {parts : Array (Nat × Operand)} {r : List SC} {cts : List CT} {xs : List (List CT)} {ct : CT}
    (ho : o.op = .buildSlice t len parts) (ht : tyGet Θ t = some ⟨z, bts, ag, zt, .slice e⟩) (hei : tyGet Θ e = some ei) (hz : ei.zero = some zr)
    (hb : Nat.ble (len * ei.size) 16777216 = true) (hs0 : Nat.blt 0 ei.size = true)
    (hl : layL (fun i => some (i * ei.size, ei.size)) (onlyE (looksE L o) tm) (anyL (len * ei.size)) parts.toList = some r) (hc : ctsOf r = some cts) (hx : chunkL ei.size len cts = some xs)
    (hd : o.dst = some d) (hn : Nat.blt d n = true) (hg : guardL L (onlyE (looksE L o) tm) o = some true) (hle : LeC (.slice true ei.size xs) ct)
    (k : GOps C n bs L tm0 mm (i + 1) l ((d, .v (.one (.c ct))) :: delL tm d) cur last T) : GOps C n bs L tm0 mm i (o :: l) tm cur last T :=
  GOps.step hg (fun _ _ _ => op_lit hΘ ho ht hei hz hb hs0 hl hc hx hle hd hn) hd k
theorem q_eff {g : FuncId} {pre post : List (List CT)} {args args' : List SV} {res : ST} (hc : Con C.P g pre args res post) (ids : List Nat) {xs : Array Operand} {ts : Array TypeId}
    (ho : o.op = .call { callee := .value (.func g), args := xs, argTypes := ts }) (hargs : evalArgs (onlyE (looksE L o) tm) xs.toList = some args') (hren : renVs ids args = some args') (hpre : preE cur ids = some pre)
    (hnd : noDup ids = true) (hlen : post.length = pre.length) (hpure : pureS res = true) (hd : o.dst = some d) (hn : Nat.blt d n = true) (hg : guardL L (onlyE (looksE L o) tm) o = some true)
    (hla : lastE (ons o.after.toList) last = true) (hb : ∀ q ∈ bs, q ∈ updMs cur ids post)
    (k : GOps C n bs L tm0 mm (i + 1) l ((d, res) :: delL tm d) (updMs cur ids post) (some i) T) : GOps C n bs L tm0 mm i (o :: l) tm cur last T :=
  GOps.eff hg (fun tm' => op_call hc ids ho (evalArgs_app hargs) hren hpre hnd hlen hpure hd hn) hd hla hb k
end
end Go.Sy
