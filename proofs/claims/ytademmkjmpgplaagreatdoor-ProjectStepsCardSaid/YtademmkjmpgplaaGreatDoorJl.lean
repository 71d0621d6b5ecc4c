/- The plain law of projection: a projection is valid; what a role says and hears along a walk of the protocol is a walk of its projection. -/
import Derived.Test.YtademmkjmpgplaaGreatDoorJb
set_option linter.unusedSimpArgs false
set_option linter.unusedVariables false
set_option linter.unusedSectionVars false
namespace Go.Sy
variable {p : Prt} {role : ByteArray} {S : List (List Int)} {l : Loc}

/-! ### Labels of points -/
theorem putF_asc : ∀ (l out : List ByteArray), Asc out → Asc (l.foldl putN out)
  | [], _, h => h
  | s :: l, out, _ => by rw [List.foldl_cons]; exact putF_asc l _ (putN_asc out s)
theorem putF_mem : ∀ (l out : List ByteArray) (x : ByteArray), x ∈ l.foldl putN out ↔ x ∈ out ∨ x ∈ l
  | [], out, x => by simp
  | s :: l, out, x => by
    rw [List.foldl_cons, putF_mem l, putN_mem, List.mem_cons]
    constructor
    · rintro ((h | h) | h)
      · exact .inl h
      · exact .inr (.inl h)
      · exact .inr (.inr h)
    · rintro (h | h | h)
      · exact .inl (.inl h)
      · exact .inl (.inr h)
      · exact .inr h
theorem labsL_map (x : Pnt) : labsL x = (x.arms.map Arm.label).foldl putN [] := by unfold labsL; rw [List.foldl_map]
theorem asc_nil : Asc [] := List.Pairwise.nil
theorem labsL_asc (x : Pnt) : Asc (labsL x) := by rw [labsL_map]; exact putF_asc _ _ asc_nil
theorem labsL_mem (x : Pnt) (s : ByteArray) : s ∈ labsL x ↔ ∃ a ∈ x.arms, a.label = s := by
  rw [labsL_map, putF_mem]; simp
theorem labsL_count {x : Pnt} (h : (x.arms.map Arm.label).Nodup) : (labsL x).length = x.arms.length := by
  have h1 := nodup_sub (asc_nodup (labsL_asc x)) (m := x.arms.map Arm.label) fun s hs => by
    obtain ⟨a, ha, rfl⟩ := (labsL_mem x s).1 hs; exact List.mem_map_of_mem ha
  have h2 := nodup_sub h (m := labsL x) fun s hs => by
    obtain ⟨a, ha, rfl⟩ := List.mem_map.1 hs; exact (labsL_mem x _).2 ⟨a, ha, rfl⟩
  rw [List.length_map] at h1 h2
  omega
theorem allF_asc (p : Prt) : ∀ (near : List Int) (out : List ByteArray), Asc out → Asc (near.foldl (fun all x => (labsL (pntAt p x)).foldl putN all) out)
  | [], _, h => h
  | x :: r, out, h => by rw [List.foldl_cons]; exact allF_asc p r _ (putF_asc _ _ h)
theorem allF_mem (p : Prt) : ∀ (near : List Int) (out : List ByteArray) (s : ByteArray), s ∈ near.foldl (fun all x => (labsL (pntAt p x)).foldl putN all) out ↔ s ∈ out ∨ ∃ x ∈ near, s ∈ labsL (pntAt p x)
  | [], out, s => by simp
  | x :: r, out, s => by
    rw [List.foldl_cons, allF_mem p r, putF_mem]
    simp only [List.mem_cons, exists_eq_or_imp, or_assoc]
theorem allL_asc (p : Prt) (near : List Int) : Asc (allL p near) := allF_asc p near [] asc_nil
theorem armsN_mem {a : Arm} {near : List Int} : a ∈ armsN p near ↔ ∃ x ∈ near, a ∈ (pntAt p x).arms := by simp [armsN]
theorem allL_mem {s : ByteArray} {near : List Int} : s ∈ allL p near ↔ ∃ a ∈ armsN p near, a.label = s := by
  show s ∈ near.foldl _ [] ↔ _
  rw [allF_mem]
  constructor
  · rintro (h | ⟨x, hx, hs⟩)
    · cases h
    · obtain ⟨a, ha, e⟩ := (labsL_mem _ _).1 hs
      exact ⟨a, armsN_mem.2 ⟨x, hx, ha⟩, e⟩
  · rintro ⟨a, ha, e⟩
    obtain ⟨x, hx, h⟩ := armsN_mem.1 ha
    exact .inr ⟨x, hx, (labsL_mem _ _).2 ⟨a, h, e⟩⟩
theorem labs_sub {near : List Int} {x : Int} (hx : x ∈ near) : (labsL (pntAt p x)).length ≤ (allL p near).length :=
  nodup_sub (asc_nodup (labsL_asc _)) fun s hs => by
    obtain ⟨a, ha, e⟩ := (labsL_mem _ _).1 hs
    exact allL_mem.2 ⟨a, armsN_mem.2 ⟨x, hx, ha⟩, e⟩
theorem carA_some {arr : List Arm} {s : ByteArray} (h : ∃ a ∈ arr, a.label = s) : ∃ a ∈ arr, a.label = s ∧ carA arr s = (a.kind, a.name) := by
  obtain ⟨b, hb, e⟩ := h
  unfold carA carO
  cases hf : arr.find? fun a => decide (a.label = s) with
  | none => exact absurd (List.find?_eq_none.1 hf b hb) (by simp [e])
  | some a => exact ⟨a, List.mem_of_find?_eq_some hf, by simpa using List.find?_some hf, rfl⟩
theorem carA_all {arr : List Arm} (h : clashB arr = false) {a : Arm} (ha : a ∈ arr) : carA arr a.label = (a.kind, a.name) := by
  unfold clashB at h
  have := List.any_eq_false.1 h a ha
  simp only [decide_eq_true_eq, ne_eq, Decidable.not_not] at this
  unfold carA; rw [this]; rfl
theorem nextN_mem {arr : List Arm} {a : Arm} (ha : a ∈ arr) : a.next ∈ nextN arr a.label := by
  unfold nextN
  exact List.mem_map.2 ⟨a, List.mem_filter.2 ⟨ha, by simp⟩, rfl⟩

/-! ### Points in which the role takes part -/
theorem name_ne {s : ByteArray} (h : nameB s = true) : s ≠ ⟨#[]⟩ := by
  intro e; subst e; revert h; decide
theorem rolesP (hv : prtB p = true) : onceB p.roles = true ∧ (∀ r ∈ p.roles, nameB r = true) ∧ nameB p.name = true := by
  unfold prtB at hv
  simp only [Bool.and_eq_true] at hv
  exact ⟨hv.2.2.2.1, fun r hr => List.all_eq_true.1 hv.2.2.2.2.1 r hr, hv.1⟩
theorem pntAt_or (p : Prt) (x : Int) : pntAt p x ∈ p.points ∨ pntAt p x = noPnt := by
  unfold pntAt
  rw [List.getD_eq_getElem?_getD]
  cases h : p.points[x.toNat]? with
  | none => exact .inr rfl
  | some y => exact .inl (List.mem_of_getElem? h)
structure InPnt (p : Prt) (role : ByteArray) (x : Pnt) : Prop where
  fr : x.from_ ∈ p.roles
  to : x.to ∈ p.roles
  ne : x.from_ ≠ x.to
  arms : armsOK p.points.length x.arms = true
theorem in_pnt (hv : prtB p = true) (hh : hasB p.roles role = true) {x : Int} (h : inP (pntAt p x) role = true) : InPnt p role (pntAt p x) := by
  have hr : role ≠ ⟨#[]⟩ := name_ne ((rolesP hv).2.1 role (hasB_iff.1 hh))
  rcases pntAt_or p x with hm | hm
  · have hb := prt_pnt hv _ hm
    unfold pntB at hb
    generalize pntAt p x = y at h hb
    unfold inP at h
    simp only [Bool.or_eq_true, decide_eq_true_eq] at h
    have he : endP y = false := by
      cases he : endP y with
      | false => rfl
      | true =>
        unfold endP at he
        simp only [Bool.and_eq_true, decide_eq_true_eq] at he
        rcases h with h | h
        · exact absurd (h.symm.trans he.1) hr
        · exact absurd (h.symm.trans he.2.1) hr
    rw [he, Bool.false_or] at hb
    simp only [Bool.and_eq_true, decide_eq_true_eq] at hb
    have hin : ∀ s, 0 ≤ placeI p.roles s → s ∈ p.roles := fun s hs => by
      apply hasB_iff.1
      unfold hasB
      exact decide_eq_true hs
    exact ⟨hin _ hb.1, hin _ hb.2.1, hb.2.2.1, hb.2.2.2⟩
  · rw [hm] at h
    unfold inP noPnt at h
    simp only [Bool.or_eq_true, decide_eq_true_eq, or_self] at h
    exact absurd h.symm hr
theorem side_in {x : Pnt} (h : inP x role = true) : (x.from_ = role ∧ sideL role x = (true, x.to)) ∨ (x.from_ ≠ role ∧ x.to = role ∧ sideL role x = (false, x.from_)) := by
  unfold sideL
  by_cases hf : x.from_ = role
  · exact .inl ⟨hf, by rw [if_pos hf]⟩
  · unfold inP at h
    simp only [Bool.or_eq_true, decide_eq_true_eq] at h
    exact .inr ⟨hf, h.resolve_left hf, by rw [if_neg hf]⟩
theorem side_role (hv : prtB p = true) (hh : hasB p.roles role = true) {x : Int} (h : inP (pntAt p x) role = true) : (sideAt p role x).2 ∈ p.roles ∧ (sideAt p role x).2 ≠ role := by
  obtain ⟨h1, h2, h3, _⟩ := in_pnt hv hh h
  unfold sideAt
  rcases side_in h with ⟨e1, e2⟩ | ⟨e1, e2, e3⟩
  · rw [e2]; exact ⟨h2, fun e => h3 (e1.trans e.symm)⟩
  · rw [e3]; exact ⟨h1, e1⟩
/-! ### A projection is valid -/
/-- Each kept set is a near set. -/
theorem Proj.near (h : Proj p role S l) : ∀ (i : Nat) (m : List Int), S[i]? = some m → ∃ set, m = nearL p role set ∧ mixE p role set = false ∧ (∀ y ∈ set, 0 ≤ y ∧ y < (p.points.length : Int)) := by
  have hpl := prt_len h.may
  have hmet : ∀ (ts : List Trn) (row : List Int) (x : Int), x ∈ ts.foldl (fun row t => bfsIn row t.arms) row → x ∈ row ∨ ∃ t ∈ ts, ∃ a ∈ t.arms, a.next = x := by
    intro ts
    induction ts with
    | nil => intro row x hx; exact .inl hx
    | cons t ts ih =>
      intro row x hx
      rw [List.foldl_cons] at hx
      rcases ih _ x hx with h1 | ⟨t', ht', h1⟩
      · rcases (bfsIn_mem _ _ _).1 h1 with h2 | ⟨a, ha, e⟩
        · exact .inl h2
        · exact .inr ⟨t, List.mem_cons_self, a, ha, e⟩
      · exact .inr ⟨t', List.mem_cons_of_mem _ ht', h1⟩
  intro i m hm
  have hi := (List.getElem?_eq_some_iff.1 hm).1
  have hin : (i : Int) ∈ l.turns.foldl (fun row t => bfsIn row t.arms) [0] := by rw [h.met]; exact rng_mem.2 ⟨by omega, by omega⟩
  rcases hmet _ _ _ hin with h1 | ⟨t, ht, a, ha, e⟩
  · have : i = 0 := by have := List.mem_singleton.1 h1; omega
    subst this
    rw [h.zero] at hm; injection hm with hm
    exact ⟨[0], hm.symm, h.one, fun y hy => by rw [List.mem_singleton] at hy; omega⟩
  · obtain ⟨j, hj, rfl⟩ := List.mem_iff_getElem.1 ht
    have hjS : j < S.length := by rw [← h.turns]; exact hj
    rcases h.turn j S[j] l.turns[j] (List.getElem?_eq_getElem hjS) (List.getElem?_eq_getElem hj) with ⟨_, h2⟩ | ⟨_, h2⟩
    · rw [h2] at ha; cases ha
    · obtain ⟨_, q2, q3, q4⟩ := h2.arm a ha
      rw [e] at q4
      rw [Int.toNat_natCast, hm] at q4
      injection q4 with q4
      refine ⟨_, q4, q2, fun y hy => ?_⟩
      unfold nextN at hy
      obtain ⟨b, hb, rfl⟩ := List.mem_map.1 hy
      obtain ⟨x, _, hx⟩ := armsN_mem.1 (List.mem_filter.1 hb).1
      exact prt_in h.may x b hx
theorem Proj.isin (h : Proj p role S l) {i : Nat} {m : List Int} (hm : S[i]? = some m) : ∀ x ∈ m, inP (pntAt p x) role = true := by
  obtain ⟨set, rfl, _⟩ := h.near i m hm
  exact fun x hx => near_isin (prt_in h.may) hx
theorem Proj.at (h : Proj p role S l) {t : Int} {m : List Int} (h0 : 0 ≤ t) (hm : S[t.toNat]? = some m) : TurnOf p role S m (trnAt l t) ∧ t < (l.turns.length : Int) := by
  have hi := (List.getElem?_eq_some_iff.1 hm).1
  have hi2 : t.toNat < l.turns.length := by rw [h.turns]; exact hi
  refine ⟨?_, by omega⟩
  have := h.turn t.toNat m l.turns[t.toNat] hm (List.getElem?_eq_getElem hi2)
  rwa [show trnAt l t = l.turns[t.toNat] by unfold trnAt; rw [List.getD_eq_getElem?_getD, List.getElem?_eq_getElem hi2]; rfl]
theorem act_arms (h : Proj p role S l) {i : Nat} {m : List Int} {t : Trn} (hm : S[i]? = some m) (hne : m ≠ []) (ha : ActOf p role S m t) : armsOK l.turns.length t.arms = true ∧ nameB t.peer = true ∧ t.peer ∈ p.roles ∧ t.peer ≠ role := by
  obtain ⟨x, hx⟩ : ∃ x, x ∈ m := List.exists_mem_of_ne_nil m hne
  have hin := h.isin hm x hx
  obtain ⟨_, _, _, hok⟩ := in_pnt h.may h.has hin
  have hpe : (sideAt p role x).2 = t.peer := by rw [ha.side x hx]
  obtain ⟨hp1, hp2⟩ := side_role h.may h.has hin
  rw [hpe] at hp1 hp2
  have hlen : t.arms.length = (allL p m).length := by rw [← ha.labs, List.length_map]
  obtain ⟨⟨ha1, _⟩, _, _⟩ := arms_all hok
  have hne2 : 1 ≤ (allL p m).length := by
    obtain ⟨a, ha0⟩ : ∃ a, a ∈ (pntAt p x).arms := List.exists_mem_of_ne_nil _ (by intro e; rw [e] at ha1; simp at ha1)
    exact List.length_pos_of_mem (allL_mem.2 ⟨a, armsN_mem.2 ⟨x, hx, ha0⟩, rfl⟩)
  have hlen6 := ha.len
  refine ⟨?_, (rolesP h.may).2.1 _ hp1, hp1, hp2⟩
  unfold armsOK
  rw [decide_eq_true (show 1 ≤ t.arms.length by omega), decide_eq_true (show t.arms.length ≤ 6 by omega), ha.labs, decide_eq_true (asc_nodup (allL_asc p m)), Bool.and_true, Bool.true_and, Bool.true_and, List.all_eq_true]
  intro a hat
  obtain ⟨q1, _, q3, q4⟩ := ha.arm a hat
  have hs : a.label ∈ allL p m := by rw [← ha.labs]; exact List.mem_map_of_mem hat
  obtain ⟨b, hb, e1, e2⟩ := carA_some (allL_mem.1 hs)
  obtain ⟨y, hy, hby⟩ := armsN_mem.1 hb
  obtain ⟨_, _, _, hok2⟩ := in_pnt h.may h.has (h.isin hm y hy)
  have hbo := (arms_all hok2).2.1 b hby
  unfold armB at hbo ⊢
  simp only [Bool.and_eq_true, decide_eq_true_eq] at hbo
  rw [e2] at q1
  injection q1 with k1 k2
  have hlt := (List.getElem?_eq_some_iff.1 q4).1
  rw [← e1, hbo.1, k1, k2, hbo.2.1, decide_eq_true q3, decide_eq_true (show a.next < ((l.turns.length : Nat) : Int) by rw [h.turns]; omega)]; rfl
theorem proj_may (h : Proj p role S l) : locB l = true := by
  have hne : 1 ≤ S.length := by have := (List.getElem?_eq_some_iff.1 h.zero).1; omega
  have h40 := h.len
  unfold locB
  rw [decide_eq_true (show 1 ≤ l.turns.length by rw [h.turns]; exact hne), decide_eq_true (show l.turns.length ≤ 40 by rw [h.turns]; exact h40), Bool.true_and, Bool.true_and, List.all_eq_true]
  intro t ht
  obtain ⟨j, hj, rfl⟩ := List.mem_iff_getElem.1 ht
  have hjS : j < S.length := by rw [← h.turns]; exact hj
  rcases h.turn j S[j] l.turns[j] (List.getElem?_eq_getElem hjS) (List.getElem?_eq_getElem hj) with ⟨_, h2⟩ | ⟨h1, h2⟩
  · rw [h2]; rfl
  · obtain ⟨q1, q2, _, _⟩ := act_arms h (List.getElem?_eq_getElem hjS) h1 h2
    unfold trnB
    rcases h2.kind with hk | hk
    · rw [if_neg (by omega), if_pos (.inl hk), q1, q2]; rfl
    · rw [if_neg (by omega), if_pos (.inr hk), q1, q2]; rfl

/-! ### Along a walk of the protocol -/
/-- What a role says and hears. -/
def ownL (p : Prt) (role : ByteArray) : Int → List ByteArray → Option (List ByteArray)
  | _, [] => some []
  | x, s :: w => match (armsAt p.g x).find? fun a => decide (a.label = s) with
    | none => none
    | some a => (ownL p role a.next w).map fun r => if inP (pntAt p x) role then s :: r else r
/-- The role is at a turn while the protocol is at a point. -/
def AtT (p : Prt) (role : ByteArray) (S : List (List Int)) (x t : Int) : Prop :=
  0 ≤ t ∧ ∃ set, S[t.toNat]? = some (nearL p role set) ∧ mixE p role set = false ∧ x ∈ waitL p role set
theorem at_zero (h : Proj p role S l) : AtT p role S 0 0 := by
  have hpl := prt_len h.may
  refine ⟨Int.le_refl _, [0], h.zero, h.one, ?_⟩
  rw [wait_mem (prt_in h.may)]
  exact .base ((start_one (by omega) 0).2 List.mem_cons_self)
theorem at_near (h : Proj p role S l) {x t : Int} (ha : AtT p role S x t) (hin : inP (pntAt p x) role = true) : ∃ m, S[t.toNat]? = some m ∧ x ∈ m ∧ ActOf p role S m (trnAt l t) := by
  obtain ⟨h0, set, h1, _, h3⟩ := ha
  have hx : x ∈ nearL p role set := (near_mem (prt_in h.may) set).2 ⟨(wait_mem (prt_in h.may) set).1 h3, hin⟩
  refine ⟨_, h1, hx, ?_⟩
  rcases (h.at h0 h1).1 with ⟨e, _⟩ | ⟨_, h2⟩
  · rw [e] at hx; cases hx
  · exact h2
theorem find_label {l : List Arm} (hd : (l.map Arm.label).Nodup) {a : Arm} (ha : a ∈ l) : l.find? (fun b => decide (b.label = a.label)) = some a := by
  cases hf : l.find? fun b => decide (b.label = a.label) with
  | none => exact absurd (List.find?_eq_none.1 hf a ha) (by simp)
  | some b =>
    have h1 := List.mem_of_find?_eq_some hf
    have h2 : b.label = a.label := by simpa using List.find?_some hf
    rw [nodup_arm hd h1 ha h2]
theorem at_step (h : Proj p role S l) {x t : Int} (ha : AtT p role S x t) {a : Arm} (hax : a ∈ (pntAt p x).arms) :
    (inP (pntAt p x) role = true ∧ ∃ b, (armsAt l.g t).find? (fun b => decide (b.label = a.label)) = some b ∧ AtT p role S a.next b.next) ∨ (inP (pntAt p x) role = false ∧ AtT p role S a.next t) := by
  have hpin := prt_in h.may
  cases hin : inP (pntAt p x) role with
  | true =>
    obtain ⟨m, hm, hx, hact⟩ := at_near h ha hin
    have haN : a ∈ armsN p m := armsN_mem.2 ⟨x, hx, hax⟩
    have hs : a.label ∈ allL p m := allL_mem.2 ⟨a, haN, rfl⟩
    rw [← hact.labs] at hs
    obtain ⟨b, hb, e⟩ := List.mem_map.1 hs
    obtain ⟨_, q2, q3, q4⟩ := hact.arm b hb
    rw [e] at q2 q4
    refine .inl ⟨rfl, b, ?_, q3, _, q4, q2, ?_⟩
    · rw [armsAt_loc, ← e]
      exact find_label (by rw [hact.labs]; exact asc_nodup (allL_asc p m)) hb
    · rw [wait_mem hpin]
      have hrg := hpin x a hax
      exact .base ((startL_mem _ _ _ _).2 (.inr ⟨nextN_mem haN, hrg⟩))
  | false =>
    obtain ⟨h0, set, h1, h2, h3⟩ := ha
    refine .inr ⟨rfl, h0, set, h1, h2, ?_⟩
    rw [wait_mem hpin] at h3 ⊢
    exact h3.step (by unfold passA; rw [hin, if_neg (by decide)]; exact hax)
theorem walk_own (h : Proj p role S l) : ∀ (w : List ByteArray) {x t y : Int}, AtT p role S x t → walkG p.g x w = some y → ∃ mine t', ownL p role x w = some mine ∧ walkG l.g t mine = some t' ∧ AtT p role S y t'
  | [], x, t, y, ha, hw => by
    rw [walkG] at hw; injection hw with hw; subst hw
    exact ⟨[], t, rfl, rfl, ha⟩
  | s :: w, x, t, y, ha, hw => by
    rw [walkG] at hw
    cases hf : (armsAt p.g x).find? fun a => decide (a.label = s) with
    | none => rw [hf] at hw; cases hw
    | some a =>
      rw [hf] at hw
      simp only at hw
      have hax : a ∈ (pntAt p x).arms := by rw [← armsAt_prt]; exact List.mem_of_find?_eq_some hf
      have hal : a.label = s := by simpa using List.find?_some hf
      rcases at_step h ha hax with ⟨hin, b, hb, hat⟩ | ⟨hin, hat⟩
      · obtain ⟨mine, t', h1, h2, h3⟩ := walk_own h w hat hw
        refine ⟨s :: mine, t', ?_, ?_, h3⟩
        · rw [ownL, hf]; simp [h1, hin]
        · rw [walkG, ← hal, hb]; exact h2
      · obtain ⟨mine, t', h1, h2, h3⟩ := walk_own h w hat hw
        refine ⟨mine, t', ?_, h2, h3⟩
        rw [ownL, hf]; simp [h1, hin]
/-- A turn is the end if and only if the role is lost. -/
theorem at_end (h : Proj p role S l) {x t : Int} (ha : AtT p role S x t) : ((nearL p role [x]).length = 0 ↔ (trnAt l t).kind = 0) ∧ 0 ≤ t ∧ t < (l.turns.length : Int) := by
  have hpin := prt_in h.may
  obtain ⟨h0, set, h1, h2, h3⟩ := ha
  obtain ⟨ht, hlt⟩ := h.at h0 h1
  refine ⟨?_, h0, hlt⟩
  have hxr := wait_range hpin h3
  have hR := (wait_mem hpin set).1 h3
  have hsub : ∀ z, z ∈ nearL p role [x] → z ∈ nearL p role set := fun z hz => by
    obtain ⟨q1, q2⟩ := (near_mem hpin [x]).1 hz
    refine (near_mem hpin set).2 ⟨?_, q2⟩
    have : ∀ z, Rch (passA p role) (startL p.points.length [] [x]) z → Rch (passA p role) (startL p.points.length [] set) z := by
      intro z hz
      induction hz with
      | base hz =>
        have := (start_one (p := p) hxr _).1 hz
        rw [List.mem_singleton] at this; subst this; exact hR
      | step _ ha ih => exact ih.step ha
    exact this z q1
  constructor
  · intro he
    have hlx : lostL p role x = true := decide_eq_true he
    have hal : ∀ y ∈ waitL p role set, lostL p role y = true := by
      unfold mixE at h2
      rw [Bool.and_eq_false_iff] at h2
      rcases h2 with h2 | h2
      · exact absurd hlx (by simpa using List.any_eq_false.1 h2 x h3)
      · intro y hy
        have := List.any_eq_false.1 h2 y hy
        simpa using this
    have hnil : nearL p role set = [] := by
      rw [near_lost hpin]
      intro y hy
      by_cases hyr : 0 ≤ y ∧ y < (p.points.length : Int)
      · have hyw : y ∈ waitL p role set := (wait_mem hpin set).2 (.base ((startL_mem _ _ _ _).2 (.inr ⟨hy, hyr⟩)))
        have := hal y hyw
        unfold lostL at this
        exact List.eq_nil_of_length_eq_zero (of_decide_eq_true this)
      · have hz : nearL p role [y] = nearL p role [] := by
          refine near_ext fun z => ?_
          rw [near_mem hpin, near_mem hpin]
          have e : ∀ z, z ∈ startL p.points.length [] [y] ↔ z ∈ startL p.points.length [] [] := fun z => by
            rw [startL_mem, startL_mem]
            constructor
            · rintro (h | ⟨h, hr⟩)
              · cases h
              · rw [List.mem_singleton] at h; subst h; exact absurd hr hyr
            · rintro (h | ⟨h, _⟩) <;> cases h
          rw [rch_ext e]
        rw [hz, near_nil hpin]
    rcases ht with ⟨_, e⟩ | ⟨hne, _⟩
    · rw [e]; rfl
    · exact absurd hnil hne
  · intro hk
    rcases ht with ⟨e, _⟩ | ⟨_, hact⟩
    · have : nearL p role [x] = [] := List.eq_nil_iff_forall_not_mem.2 fun z hz => by
        have := hsub z hz
        rw [e] at this; cases this
      rw [this]; rfl
    · rcases hact.kind with q | q <;> omega
end Go.Sy
