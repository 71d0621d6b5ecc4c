/- Symbolic states: regions that draw their order and make variables: the walk. -/
import Derived.Test.YthjpcefjgmklfaaSymP
namespace Go.Sy
set_option linter.unusedSimpArgs false
set_option linter.unusedVariables false
set_option linter.unusedSectionVars false
open Go.RowKit

def setR (d i : Nat) (cs : List SC) (r : Rec) : Rec :=
  match Nat.beq r.d d with
  | true => match r.st with
    | none => ⟨r.a, r.d, r.zr, some (i, cs)⟩
    | some _ => r
  | false => r
theorem setR_spec (d i : Nat) (cs : List SC) (r : Rec) : (setR d i cs r).a = r.a ∧ (setR d i cs r).d = r.d ∧ (setR d i cs r).zr = r.zr ∧
    ((setR d i cs r).st = r.st ∨ (r.st = none ∧ (setR d i cs r).st = some (i, cs))) ∧ (∀ x, r.st = some x → setR d i cs r = r) ∧ (r.d = d → r.st = none → (setR d i cs r).st = some (i, cs)) ∧ (r.d ≠ d → setR d i cs r = r) := by
  obtain ⟨a, e, zr, st⟩ := r
  unfold setR
  cases hb : Nat.beq e d with
  | true =>
    have he : e = d := Nat.eq_of_beq_eq_true hb
    cases st <;> simp [he]
  | false =>
    have hne : e ≠ d := fun e' => by subst e'; simp at hb
    simp [hne]
def setRs (d i : Nat) (cs : List SC) : List Rec → List Rec
  | [] => []
  | r :: l => setR d i cs r :: setRs d i cs l
theorem setRs_eq (d i : Nat) (cs : List SC) : ∀ l, setRs d i cs l = l.map (setR d i cs)
  | [] => rfl
  | r :: l => by simp [setRs, setRs_eq d i cs l]
def findR (d : Nat) : List Rec → Option Rec
  | [] => none
  | r :: l => match Nat.beq r.d d with
    | true => some r
    | false => findR d l
theorem findR_spec {d : Nat} {r : Rec} : ∀ {l : List Rec}, findR d l = some r → r ∈ l ∧ r.d = d
  | [], h => by simp [findR] at h
  | a :: l, h => by
    unfold findR at h
    split at h
    · rename_i hb; injection h with h; subst h; exact ⟨List.mem_cons_self, Nat.eq_of_beq_eq_true hb⟩
    · obtain ⟨h1, h2⟩ := findR_spec h; exact ⟨List.mem_cons_of_mem _ h1, h2⟩

section
variable {C : Ctx} {n : Nat} {mm0 : MM} {L : List Oper} {tm0 tm : TM} {l : List Oper} {T : TM → MM → Prop} {o : Oper} {d i j : Nat} {s : ST} {R : List Rec}

theorem Looked.back (hl : d ∉ looksE L o) {tm' : TM} (h : Looked L ((d, s) :: delL tm d) o tm') : Looked L tm o tm' :=
  fun p hp hpl => h p (List.mem_cons_of_mem _ (mem_delL hp fun e => hl (e ▸ hpl))) hpl

theorem OkE.grow (h : OkE C n mm0 L tm R j o) (hd : o.dst ≠ some d) (hl : d ∉ looksE L o) : OkE C n mm0 L ((d, s) :: delL tm d) R j o := by
  cases h with
  | val d' s' e1 e2 hr h => exact .val d' s' e1 (List.mem_cons_of_mem _ (mem_delL e2 fun e => hd (e ▸ e1))) hr fun tm' mm' hL => h tm' mm' (hL.back hl)
  | new d' s' r e1 e2 h3 h4 h5 h6 h7 h => exact .new d' s' r e1 (List.mem_cons_of_mem _ (mem_delL e2 fun e => hd (e ▸ e1))) h3 h4 h5 h6 h7 fun tm' mm' hL => h tm' mm' (hL.back hl)
  | set r cs e1 h2 h3 h4 h5 h6 h => exact .set r cs e1 h2 h3 h4 h5 h6 fun tm' mm' hL => h tm' mm' (hL.back hl)
theorem OkE.cons (h : OkE C n mm0 L tm R j o) {r0 : Rec} (ha : r0.a ≠ j) (hs : r0.st = none) : OkE C n mm0 L tm (r0 :: R) j o := by
  have key : r0.a ≠ j ∧ ∀ b cs, r0.st = some (b, cs) → b ≠ j := ⟨ha, fun b cs h => by rw [hs] at h; cases h⟩
  cases h with
  | val d' s' e1 e2 hr h => exact .val d' s' e1 e2 (fun r hr' => (List.mem_cons.1 hr').elim (fun e => e ▸ key) (hr r)) h
  | new d' s' r e1 e2 h3 h4 h5 h6 h7 h => exact .new d' s' r e1 e2 (List.mem_cons_of_mem _ h3) h4 h5 h6 (fun r hr' => (List.mem_cons.1 hr').elim (fun e => .inr (e ▸ key)) (h7 r)) h
  | set r cs e1 h2 h3 h4 h5 h6 h => exact .set r cs e1 (List.mem_cons_of_mem _ h2) h3 h4 (fun r hr' => (List.mem_cons.1 hr').elim (fun e => .inr (e ▸ key)) (h5 r)) h6 h
theorem OkE.mapR (h : OkE C n mm0 L tm R j o) {cs : List SC} (hij : i ≠ j) : OkE C n mm0 L tm (R.map (setR d i cs)) j o := by
  have keep : ∀ r : Rec, (r.a ≠ j ∧ ∀ b cs', r.st = some (b, cs') → b ≠ j) → ((setR d i cs r).a ≠ j ∧ ∀ b cs', (setR d i cs r).st = some (b, cs') → b ≠ j) := by
    intro r ⟨h1, h2⟩
    obtain ⟨k1, k2, k3, k4, _⟩ := setR_spec d i cs r
    refine ⟨by rw [k1]; exact h1, fun b cs' hb => ?_⟩
    rcases k4 with k4 | ⟨_, k4⟩
    · rw [k4] at hb; exact h2 b cs' hb
    · rw [k4] at hb; injection hb with hb; injection hb with hb; rw [← hb]; exact hij
  cases h with
  | val d' s' e1 e2 hr h => exact .val d' s' e1 e2 (fun r hr' => by obtain ⟨r1, h1, rfl⟩ := List.mem_map.1 hr'; exact keep r1 (hr r1 h1)) h
  | new d' s' r e1 e2 h3 h4 h5 h6 h7 h =>
    obtain ⟨k1, k2, k3, k4, _⟩ := setR_spec d i cs r
    refine .new d' s' (setR d i cs r) e1 e2 (List.mem_map_of_mem h3) (by rw [k1]; exact h4) (by rw [k2]; exact h5) ?_ ?_ (by rw [k3]; exact h)
    · intro b cs' hb
      rcases k4 with k4 | ⟨_, k4⟩
      · rw [k4] at hb; exact h6 b cs' hb
      · rw [k4] at hb; injection hb with hb; injection hb with hb; rw [← hb]; exact hij
    · intro r' hr'
      obtain ⟨r1, h1, rfl⟩ := List.mem_map.1 hr'
      rcases h7 r1 h1 with rfl | h8
      · exact .inl rfl
      · exact .inr (keep r1 h8)
  | set r cs' e1 h2 h3 h4 h5 h6 h =>
    obtain ⟨k1, k2, k3, k4, k5, _⟩ := setR_spec d i cs r
    have hk := k5 _ h3
    refine .set r cs' e1 (by rw [← hk]; exact List.mem_map_of_mem h2) h3 h4 ?_ h6 h
    intro r' hr'
    obtain ⟨r1, h1, rfl⟩ := List.mem_map.1 hr'
    rcases h5 r1 h1 with rfl | h8
    · exact .inl hk
    · exact .inr (keep r1 h8)

structure ES (C : Ctx) (n : Nat) (mm0 : MM) (L : List Oper) (tm0 : TM) (ahead l : List Oper) (i : Nat) (tm : TM) (R : List Rec) : Prop where
  ok : ∀ (j : Nat) (o : Oper), j < i → L[j]? = some o → OkE C n mm0 L tm R j o
  keys : ∀ p ∈ tm, ∀ q ∈ tm, p.1 = q.1 → p = q
  base : ∀ p ∈ tm, p.1 ∉ dstsE L → p ∈ tm0
  okr : okR2 L ahead l i = true
  whole : L = ahead.reverse ++ l
  len : ahead.length = i
  rd : ∀ r ∈ R, ∀ r' ∈ R, r.d = r'.d → r = r'
  r0 : ∀ r ∈ R, ∀ q ∈ mm0, q.1 ≠ r.d
  rl : ∀ r ∈ R, r.a < i ∧ ∀ b cs, r.st = some (b, cs) → b < i
  rdst : ∀ r ∈ R, ∃ o ∈ ahead, o.dst = some r.d

def EOps (C : Ctx) (n : Nat) (mm0 : MM) (L : List Oper) (tm0 : TM) (i : Nat) (l : List Oper) (tm : TM) (R : List Rec) (T : TM → MM → Prop) : Prop :=
  ∀ ahead, ES C n mm0 L tm0 ahead l i tm R → ∃ tmF RF, T tmF (mmOf RF mm0) ∧ okT (mmOf RF mm0) tmF = true ∧ okM (mmOf RF mm0) (mmOf RF mm0) = true ∧ ES C n mm0 L tm0 L.reverse [] L.length tmF RF

theorem EOps.nil (h : T tm (mmOf R mm0)) (h1 : okT (mmOf R mm0) tm = true) (h2 : okM (mmOf R mm0) (mmOf R mm0) = true) : EOps C n mm0 L tm0 i [] tm R T := fun ahead hs => by
  have hL : L = ahead.reverse := by have := hs.whole; rwa [List.append_nil] at this
  have hi : i = L.length := by rw [hL, List.length_reverse, hs.len]
  have ha : ahead = L.reverse := by rw [hL, List.reverse_reverse]
  subst hi
  rw [← ha] at *
  exact ⟨tm, R, h, h1, h2, ha ▸ hs⟩

theorem ES.cur {ahead : List Oper} (hs : ES C n mm0 L tm0 ahead (o :: l) i tm R) : L[i]? = some o := by
  have h1 := hs.whole
  have h2 : ahead.reverse.length = i := by rw [List.length_reverse, hs.len]
  rw [h1, List.getElem?_append_right (by omega)]
  simp [h2]
theorem ES.before {ahead : List Oper} (hs : ES C n mm0 L tm0 ahead (o :: l) i tm R) {o' : Oper} (hj : j < i) (h : L[j]? = some o') : o' ∈ ahead := by
  have h1 := hs.whole
  have h2 : ahead.reverse.length = i := by rw [List.length_reverse, hs.len]
  rw [h1, List.getElem?_append_left (by omega)] at h
  simpa using List.mem_of_getElem? h

theorem ES.next {ahead : List Oper} (hs : ES C n mm0 L tm0 ahead (o :: l) i tm R) (hd : o.dst = some d) {R' : List Rec} (hR : R' = R ∨ ∃ zr, R' = ⟨i, d, zr, none⟩ :: R ∧ ∀ q ∈ mm0, q.1 ≠ d)
    (hok : d ∉ looksE L o → (∀ r ∈ R, r.d ≠ d) → OkE C n mm0 L ((d, s) :: delL tm d) R' i o) :
    ES C n mm0 L tm0 (o :: ahead) l (i + 1) ((d, s) :: delL tm d) R' := by
  obtain ⟨h2, h3, h4, h5⟩ := okR2_cons hs.okr
  obtain ⟨h6, h7⟩ := h5 d hd
  have hin : o ∈ L := by rw [hs.whole]; simp
  have hRd : ∀ r ∈ R, r.d ≠ d := fun r hr e => by
    obtain ⟨o', ho', hd'⟩ := hs.rdst r hr
    exact (freeE2_spec h6 o' ho').1 (by rw [hd', e])
  refine ⟨fun j o' hj ho' => ?_, keys_set hs.keys, fun p hp hn => ?_, h4, by rw [hs.whole]; simp, by simp [hs.len], ?_, ?_, ?_, ?_⟩
  · by_cases hji : j = i
    · subst hji
      rw [hs.cur] at ho'; injection ho' with ho'; subst ho'
      exact hok h7 hRd
    · have hjl : j < i := by omega
      obtain ⟨k1, k2⟩ := freeE2_spec h6 o' (hs.before hjl ho')
      have := (hs.ok j o' hjl ho').grow (s := s) k1 k2
      rcases hR with rfl | ⟨zr, rfl, _⟩
      · exact this
      · exact this.cons (fun e => hji e.symm) rfl
  · rcases List.mem_cons.1 hp with rfl | hp
    · exact absurd (dstsE_mem hin hd) hn
    · exact hs.base p (delL_mem hp).1 hn
  · rcases hR with rfl | ⟨zr, rfl, _⟩
    · exact hs.rd
    · intro r hr r' hr' e
      rcases List.mem_cons.1 hr with rfl | hr <;> rcases List.mem_cons.1 hr' with rfl | hr'
      · rfl
      · exact absurd e.symm (hRd r' hr')
      · exact absurd e (hRd r hr)
      · exact hs.rd r hr r' hr' e
  · rcases hR with rfl | ⟨zr, rfl, h0⟩
    · exact hs.r0
    · intro r hr
      rcases List.mem_cons.1 hr with rfl | hr
      · exact h0
      · exact hs.r0 r hr
  · have key : ∀ r ∈ R, r.a < i + 1 ∧ ∀ b cs, r.st = some (b, cs) → b < i + 1 := fun r hr => ⟨Nat.lt_succ_of_lt (hs.rl r hr).1, fun b cs h => Nat.lt_succ_of_lt ((hs.rl r hr).2 b cs h)⟩
    rcases hR with rfl | ⟨zr, rfl, h0⟩
    · exact key
    · intro r hr
      rcases List.mem_cons.1 hr with rfl | hr
      · exact ⟨Nat.lt_succ_self _, fun b cs h => by cases h⟩
      · exact key r hr
  · have key : ∀ r ∈ R, ∃ o' ∈ o :: ahead, o'.dst = some r.d := fun r hr => let ⟨o', h1, h2⟩ := hs.rdst r hr; ⟨o', List.mem_cons_of_mem _ h1, h2⟩
    rcases hR with rfl | ⟨zr, rfl, h0⟩
    · exact key
    · intro r hr
      rcases List.mem_cons.1 hr with rfl | hr
      · exact ⟨o, List.mem_cons_self, hd⟩
      · exact key r hr

theorem ES.other {ahead : List Oper} (hs : ES C n mm0 L tm0 ahead (o :: l) i tm R) : ∀ r ∈ R, r.a ≠ i ∧ ∀ b cs, r.st = some (b, cs) → b ≠ i :=
  fun r hr => ⟨Nat.ne_of_lt (hs.rl r hr).1, fun b cs h => Nat.ne_of_lt ((hs.rl r hr).2 b cs h)⟩

theorem guard_looked {b : Bool} (h : guardL L (onlyE (looksE L o) tm) o = some b) {tm' : TM} (hs : Looked L tm o tm') {mm' : MM} {a : Act} {w : World} (hh : Has C n tm' mm' a w) :
    Region.wanted o (yielded L.toArray a.tmps) = b := guardL_only h hs hh

/-- A value. -/
theorem EOps.step (hg : guardL L (onlyE (looksE L o) tm) o = some true)
    (h : ∀ mm', (∀ q ∈ mm0, q ∈ mm') → (∀ p ∈ mm', ∀ q ∈ mm', p.1 = q.1 → p = q) → OpX C n mm' o (onlyE (looksE L o) tm) d s) (hd : o.dst = some d)
    (k : EOps C n mm0 L tm0 (i + 1) l ((d, s) :: delL tm d) R T) : EOps C n mm0 L tm0 i (o :: l) tm R T := fun ahead hs =>
  k _ (hs.next hd (.inl rfl) fun hl _ => .val d s hd List.mem_cons_self hs.other fun tm' mm' hL hb a w K Q hh hK => by
    have hL' : Looked L tm o tm' := hL.back hl
    rw [if_pos (guard_looked hg hL' hh)]
    exact (h mm' hb (has_uniq hh)).2 tm' (fun p hp => hL' p (onlyE_mem.1 hp).1 (onlyE_mem.1 hp).2) a w K Q hh hK)
theorem EOps.skip (hg : guardL L (onlyE (looksE L o) tm) o = some false) (hd : o.dst = some d) (hn : Nat.blt d n = true)
    (k : EOps C n mm0 L tm0 (i + 1) l ((d, .tup []) :: delL tm d) R T) : EOps C n mm0 L tm0 i (o :: l) tm R T := fun ahead hs =>
  k _ (hs.next hd (.inl rfl) fun hl _ => .val d _ hd List.mem_cons_self hs.other fun tm' mm' hL hb a w K Q hh hK => by
    have hL' : Looked L tm o tm' := hL.back hl
    rw [if_neg (by rw [guard_looked hg hL' hh]; simp)]
    obtain ⟨H, Z, hm⟩ := hh
    rw [hd]
    exact hK _ _ ⟨H, Z, hm.setT (Nat.blt_eq.mp hn) ⟨#[], rfl, rfl, fun j c hc => by simp at hc⟩⟩)
/-- A new variable. -/
theorem EOps.alloc {Θ : Tab} (hΘ : tabOK C.P Θ) {e : TypeId} {z bts : Nat} {ag : Bool} {zr : List CT} {sh : Sh} (hg : guardL L (onlyE (looksE L o) tm) o = some true) (ho : o.op = .alloc e)
    (ht : tyGet Θ e = some ⟨z, bts, ag, some zr, sh⟩) (hd : o.dst = some d) (hn : Nat.blt d n = true) (hfr : hasI mm0 d = false)
    (k : EOps C n mm0 L tm0 (i + 1) l ((d, .v (.one (.ptr d 0))) :: delL tm d) (⟨i, d, zr.map SC.c, none⟩ :: R) T) : EOps C n mm0 L tm0 i (o :: l) tm R T := fun ahead hs => by
  have hni := hasI_false hfr
  refine k _ (hs.next hd (.inr ⟨_, rfl, fun q hq e => hni ⟨q, hq, e⟩⟩) fun hl hRd => ?_)
  refine .new d _ ⟨i, d, zr.map SC.c, none⟩ hd List.mem_cons_self List.mem_cons_self rfl rfl (fun b cs h => by cases h) (fun r' hr' => ?_) fun tm' mm' hL hf a w K Q hh hK => ?_
  · rcases List.mem_cons.1 hr' with rfl | hr'
    · exact .inl rfl
    · exact .inr (hs.other r' hr')
  · have hL' : Looked L tm o tm' := hL.back hl
    rw [if_pos (guard_looked hg hL' hh)]
    have hnone : getM mm' d = none := by
      cases hg' : getM mm' d with
      | none => rfl
      | some x => exact absurd rfl (hf _ (getM_mem hg'))
    exact (op_alloc hΘ ho ht hnone hd hn).wp a w K Q hh hK
theorem evalC_app {l r : TM} {x : Operand} {s : SC} (h : evalC l x = some s) : evalC (l ++ r) x = some s := by
  unfold evalC at h ⊢
  split at h
  · rename_i hs; rw [evalT_app hs]; exact h
  · cases h
/-- It is set. -/
theorem EOps.store {Θ : Tab} (hΘ : tabOK C.P Θ) {t : TypeId} {ti : TyI} {x y : Operand} {r : Rec} {cs : List SC} {v : SV} (hg : guardL L (onlyE (looksE L o) tm) o = some true) (ho : o.op = .store t x y)
    (ht : tyGet Θ t = some ti) (hx : evalC (onlyE (looksE L o) tm) x = some (.ptr d 0)) (hf : findR d R = some r) (hst : r.st = none) (haf : memN (ons o.after.toList) r.a = true)
    (hy : evalV (onlyE (looksE L o) tm) y = some v) (hk : v.cells.all SC.known = true) (hsz : Nat.beq v.cells.length ti.size = true) (hs' : spliceL r.zr 0 v.cells = some cs) (hd : o.dst = none)
    (k : EOps C n mm0 L tm0 (i + 1) l tm (setRs d i cs R) T) : EOps C n mm0 L tm0 i (o :: l) tm R T := fun ahead hs => by
  obtain ⟨h2, h3, h4, h5⟩ := okR2_cons hs.okr
  obtain ⟨f1, f2⟩ := findR_spec hf
  rw [setRs_eq] at k
  obtain ⟨k1, k2, k3, k4, _, k6, _⟩ := setR_spec d i cs r
  have hspec := fun r => setR_spec d i cs r
  refine k _ ⟨fun j o' hj ho' => ?_, hs.keys, hs.base, h4, by rw [hs.whole]; simp, by simp [hs.len], ?_, ?_, ?_, ?_⟩
  · by_cases hji : j = i
    · subst hji
      rw [hs.cur] at ho'; injection ho' with ho'; subst ho'
      refine .set (setR d j cs r) cs hd (List.mem_map_of_mem f1) (k6 f2 hst) (by rw [k1]; exact memN_iff.1 haf) (fun r' hr' => ?_) (by rw [k1]; exact (hs.other r f1).1) fun tm' mm' hL hin a w K Q hh hK => ?_
      · obtain ⟨r1, g1, rfl⟩ := List.mem_map.1 hr'
        by_cases hrd : r1.d = d
        · have : r1 = r := hs.rd r1 g1 r f1 (by rw [hrd, f2])
          exact .inl (by rw [this])
        · obtain ⟨_, _, _, _, _, _, g7⟩ := hspec r1
          rw [g7 hrd]
          exact .inr (hs.other r1 g1)
      · rw [if_pos (guard_looked hg hL hh)]
        rw [k2, k3] at hin
        rw [k2] at hK
        have hget := getM_of_mem (has_uniq hh) hin
        rw [f2] at hget hK
        have hrun := (op_store_box (C := C) (n := n) (tm := onlyE (looksE L o) tm ++ tm') hΘ ho ht (evalC_app hx) hget (evalV_app hy) hk hsz hs' hd).wp
        refine hrun a w K Q (hh.incl fun p hp => (List.mem_append.1 hp).elim (fun hp => hL p (onlyE_mem.1 hp).1 (onlyE_mem.1 hp).2) id) fun a' w' h' => hK a' w' (h'.incl fun p hp => List.mem_append_right _ hp)
    · have hjl : j < i := by omega
      exact (hs.ok j o' hjl ho').mapR (fun e => hji e.symm)
  · intro a ha b hb e
    obtain ⟨a1, g1, rfl⟩ := List.mem_map.1 ha
    obtain ⟨b1, g2, rfl⟩ := List.mem_map.1 hb
    rw [(hspec a1).2.1, (hspec b1).2.1] at e
    rw [hs.rd a1 g1 b1 g2 e]
  · intro a ha
    obtain ⟨a1, g1, rfl⟩ := List.mem_map.1 ha
    rw [(hspec a1).2.1]
    exact hs.r0 a1 g1
  · intro a ha
    obtain ⟨a1, g1, rfl⟩ := List.mem_map.1 ha
    obtain ⟨q1, _, _, q4, _⟩ := hspec a1
    refine ⟨by rw [q1]; exact Nat.lt_succ_of_lt (hs.rl a1 g1).1, fun b cs' hb => ?_⟩
    rcases q4 with q4 | ⟨_, q4⟩
    · rw [q4] at hb; exact Nat.lt_succ_of_lt ((hs.rl a1 g1).2 b cs' hb)
    · rw [q4] at hb; injection hb with hb; injection hb with hb; omega
  · intro a ha
    obtain ⟨a1, g1, rfl⟩ := List.mem_map.1 ha
    rw [(hspec a1).2.1]
    obtain ⟨o', q1, q2⟩ := hs.rdst a1 g1
    exact ⟨o', List.mem_cons_of_mem _ q1, q2⟩

/-- A region that draws its order and makes variables. -/
theorem g_drawE {f : FuncId} {Rr : Ending → World → Prop} {k : List Item} {id : Nat} (hmix : C.P.follows .mixedOrders = true) (hok : okR2 L [] L 0 = true) (hu : uniT (dstsE L) tm0 = true)
    (h : EOps C n mm0 L tm0 0 L tm0 [] (fun tm' mm' => Goes C f n Rr k tm' mm')) : Goes C f n Rr (.code (.region id L.toArray true) :: k) tm0 mm0 := by
  obtain ⟨u1, u2⟩ := uniT_spec hu
  obtain ⟨tmF, RF, hg, hT, hM, hF⟩ := h [] ⟨fun j o hj => (by omega), u2, fun p hp _ => hp, hok, rfl, rfl, fun r hr => (by cases hr), fun r hr => (by cases hr), fun r hr => (by cases hr), fun r hr => (by cases hr)⟩
  intro a w hh b cs hb hk
  have hany := any_okE (P := fun tm' mm' => Goes C f n Rr k tm' mm') hok (fun i o ho => hF.ok i o (List.getElem?_eq_some_iff.1 ho).1 ho) hF.keys hF.rd hF.r0 hF.rl hT hM hg L.length (Array.replicate L.length false) a { w with drawn := w.drawn + 1 } tm0 mm0 (by simp)
    (by rw [show (Array.replicate L.length false).toList = List.replicate L.length false by simp]; exact Nat.le_trans (List.length_filter_le _ _) (by simp))
    (fun p hp => by
      obtain ⟨g1, g2 | ⟨k, o, k1, k2, k3⟩⟩ := hp
      · exact hF.base p g1 g2
      · have hkl := (List.getElem?_eq_some_iff.1 k1).1
        simp [Array.getD, hkl] at k3)
    ⟨fun q hq => hq, fun r hr hl => (by
        have := (hF.rl r hr).1
        simp [Array.getD, this] at hl), fun r hr b cs hst hl => (by
        have := (hF.rl r hr).2 b cs hst
        simp [Array.getD, this] at hl), fun q hq => .inl ⟨q, hq, rfl⟩⟩ hh.drawn
  have hwp := wp_region_any (id := id) (Q := QT C n (fun tm' mm' => Goes C f n Rr k tm' mm')) (ops := L.toArray) (a := a) (w := w) hmix (by simpa using hany)
  obtain ⟨e, a', w', hq, harr⟩ := hwp b k cs
  cases e with
  | normal =>
    obtain ⟨tm', mm', hg, hh'⟩ := hq
    obtain ⟨e, w'', fr, g1, g2, g3⟩ := hg a' w' hh' b cs hb hk
    exact ⟨e, w'', fr, g1, Comes.of_steps harr g2, g3⟩
  | _ => exact hq.elim
end
end Go.Sy
