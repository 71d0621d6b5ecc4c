/- Symbolic states: the way of control; what a function is worth to its callers. -/
import Derived.Test.YthjpcefjgmklfaaSymI
import Derived.Tactics
import Derived.Scope
namespace Go.Sy
set_option linter.unusedSimpArgs false
set_option linter.unusedVariables false
set_option linter.unusedSectionVars false
open Go.RowKit

/-- From here on the function ends as R says. -/
def Goes (C : Ctx) (f : FuncId) (n : Nat) (R : Ending → World → Prop) (todo : List Item) (tm : TM) (mm : MM) : Prop :=
  ∀ a w, Has C n tm mm a w → ∀ (b : Frame) (cs : List Frame), b.fn = f → b.kind = .normal →
    ∃ e w' fr, R e w' ∧ Comes C.P (lone (b.at a todo) cs w) (lone fr cs w') e ∧ fr.fn = f ∧ fr.leaving C.P w' e

section
variable {C : Ctx} {f : FuncId} {n : Nat} {R : Ending → World → Prop} {k : List Item} {tm tm' : TM} {mm mm' : MM}

theorem Goes.step {t t' : List Item} (h : ∀ (b : Frame) a cs w, step C.P (lone (b.at a t) cs w) = .next (lone (b.at a t') cs w)) (g : Goes C f n R t' tm mm) : Goes C f n R t tm mm := by
  intro a w hh b cs hb hk
  obtain ⟨e, w', fr, h1, h2, h3⟩ := g a w hh b cs hb hk
  exact ⟨e, w', fr, h1, Comes.of_steps (.one (h b a cs w)) h2, h3⟩

theorem g_seq {x y : Code} (g : Goes C f n R (.code x :: .code y :: k) tm mm) : Goes C f n R (.code (.seq x y) :: k) tm mm := Goes.step (fun _ _ _ _ => step_seq) g
theorem g_skip (g : Goes C f n R k tm mm) : Goes C f n R (.code .skip :: k) tm mm := Goes.step (fun _ _ _ _ => step_skip) g
theorem g_label {l : Nat} (g : Goes C f n R k tm mm) : Goes C f n R (.code (.label l) :: k) tm mm := Goes.step (fun _ _ _ _ => step_label) g
theorem g_block {id : Nat} {c : Code} (g : Goes C f n R (.code c :: .inBlock id :: k) tm mm) : Goes C f n R (.code (.block id c) :: k) tm mm := Goes.step (fun _ _ _ _ => step_block) g
theorem g_inBlock {id : Nat} (g : Goes C f n R k tm mm) : Goes C f n R (.inBlock id :: k) tm mm := Goes.step (fun _ _ _ _ => step_inBlock) g
theorem g_scope {c : Code} (g : Goes C f n R (.code c :: .inScope c :: k) tm mm) : Goes C f n R (.code (.scope c) :: k) tm mm := Goes.step (fun _ _ _ _ => step_scope) g
theorem g_inScope {c : Code} (g : Goes C f n R k tm mm) : Goes C f n R (.inScope c :: k) tm mm := Goes.step (fun _ _ _ _ => step_inScope) g
theorem g_exit {id : Nat} {k' : List Item} (h : exitTo id k = some k') (g : Goes C f n R k' tm mm) : Goes C f n R (.code (.exit id) :: k) tm mm := Goes.step (fun _ _ _ _ => step_exit h) g
theorem g_goto {l : Nat} {k' : List Item} (h : gotoIn l k = some k') (g : Goes C f n R k' tm mm) : Goes C f n R (.code (.goto l) :: k) tm mm := Goes.step (fun _ _ _ _ => step_goto h) g

theorem g_if_true {c : Operand} {x y : Code} (hc : evalC tm c = some (.lit true)) (h1 : Goes C f n R (.code x :: k) tm mm) :
    Goes C f n R (.code (.cond c x y) :: k) tm mm := by
  intro a w hh b cs hb hk
  have hv : a.eval c = .bool true := by
    obtain ⟨H, Z, hm⟩ := hh
    exact evalC_rep hm hc
  obtain ⟨e, w', fr, g1, g2, g3⟩ := h1 a w hh b cs hb hk
  exact ⟨e, w', fr, g1, Comes.of_steps (.one (step_cond hv)) g2, g3⟩
theorem g_if_false {c : Operand} {x y : Code} (hc : evalC tm c = some (.lit false)) (h1 : Goes C f n R (.code y :: k) tm mm) :
    Goes C f n R (.code (.cond c x y) :: k) tm mm := by
  intro a w hh b cs hb hk
  have hv : a.eval c = .bool false := by
    obtain ⟨H, Z, hm⟩ := hh
    exact evalC_rep hm hc
  obtain ⟨e, w', fr, g1, g2, g3⟩ := h1 a w hh b cs hb hk
  exact ⟨e, w', fr, g1, Comes.of_steps (.one (step_cond hv)) g2, g3⟩

theorem g_if {t : Nat} {x y : Code} {v : Bool} (hc : getT tm t = some (.v (.one (.c (.bool v)))))
    (h1 : v = true → Goes C f n R (.code x :: k) ((t, .v (.one (.lit true))) :: delL tm t) mm) (h2 : v = false → Goes C f n R (.code y :: k) ((t, .v (.one (.lit false))) :: delL tm t) mm) :
    Goes C f n R (.code (.cond (.tmp t) x y) :: k) tm mm := by
  intro a w hh b cs hb hk
  obtain ⟨H, Z, hm⟩ := hh
  have hv : a.eval (.tmp t) = .bool v := RepC.bool_inv (hm.tmps _ (getT_mem hc))
  have key : Has C n ((t, .v (.one (.lit v))) :: delL tm t) mm a w := by
    refine ⟨H, Z, { hm with tmps := fun p hp => ?_ }⟩
    rcases List.mem_cons.1 hp with rfl | hp
    · exact hv
    · exact hm.tmps p (delL_mem hp).1
  cases v with
  | true =>
    obtain ⟨e, w', fr, g1, g2, g3⟩ := h1 rfl a w key b cs hb hk
    exact ⟨e, w', fr, g1, Comes.of_steps (.one (step_cond hv)) g2, g3⟩
  | false =>
    obtain ⟨e, w', fr, g1, g2, g3⟩ := h2 rfl a w key b cs hb hk
    exact ⟨e, w', fr, g1, Comes.of_steps (.one (step_cond hv)) g2, g3⟩

theorem g_region {id : Nat} {L : List Oper} (h : SOps C n L.toArray L tm mm (fun tm' mm' => Goes C f n R k tm' mm')) : Goes C f n R (.code (.region id L.toArray false) :: k) tm mm := by
  intro a w hh b cs hb hk
  obtain ⟨e, a', w', hq, harr⟩ := wp_region_lit (id := id) (h a w hh) b k cs
  cases e with
  | normal =>
    obtain ⟨tm', mm', hg, hh'⟩ := hq
    obtain ⟨e, w'', fr, g1, g2, g3⟩ := hg a' w' hh' b cs hb hk
    exact ⟨e, w'', fr, g1, Comes.of_steps harr g2, g3⟩
  | _ => exact hq.elim

theorem Goes.mono {t : List Item} (g : Goes C f n R t tm' mm') (hs : ∀ a w, Has C n tm mm a w → Has C n tm' mm' a w) : Goes C f n R t tm mm :=
  fun a w hh => g a w (hs a w hh)

/-- A loop: S i: the state at the head of a round; the rounds end since μ falls. -/
theorem g_rounds {ι : Type} (S : ι → TM × MM) (μ : ι → Nat) {c : Code}
    (h : ∀ i, (∀ j, μ j < μ i → Goes C f n R (.inLoop c :: k) (S j).1 (S j).2) → Goes C f n R (.code c :: .inLoop c :: k) (S i).1 (S i).2) (i : ι) :
    Goes C f n R (.inLoop c :: k) (S i).1 (S i).2 := by
  have key : ∀ m i, μ i < m → Goes C f n R (.inLoop c :: k) (S i).1 (S i).2 := by
    intro m
    induction m with
    | zero => intro i hi; omega
    | succ m ih =>
      intro i hi
      exact Goes.step (fun _ _ _ _ => step_inLoop) (h i (fun j hj => ih j (by omega)))
  exact key (μ i + 1) i (by omega)

/-- The loop entered. -/
theorem g_loop {ι : Type} (S : ι → TM × MM) (μ : ι → Nat) {c : Code} (i : ι)
    (hs : ∀ a w, Has C n tm mm a w → Has C n (S i).1 (S i).2 a w)
    (h : ∀ i, (∀ j, μ j < μ i → Goes C f n R (.inLoop c :: k) (S j).1 (S j).2) → Goes C f n R (.code c :: .inLoop c :: k) (S i).1 (S i).2) :
    Goes C f n R (.code (.loop c) :: k) tm mm :=
  Goes.step (fun _ _ _ _ => step_loop) ((h i (fun j _ => g_rounds S μ h j)).mono hs)

end

/-! The results -/
def delC : SC → Option SC
  | .lit b => some (.c (.bool b))
  | s => some s
def delCs : List SC → Option (List SC)
  | [] => some []
  | a :: l => match delC a with
    | some a' => match delCs l with
      | some l' => some (a' :: l')
      | none => none
    | none => none
def delV : SV → Option SV
  | .one s => match delC s with
    | some s' => some (.one s')
    | none => none
  | .agg l => match delCs l with
    | some l' => some (.agg l')
    | none => none
theorem delC_rep {I : Nat → Prop} {H : Nat → Value} {Z : Nat → Nat} {w : World} {M : Nat → Prop} {v : Value} {s r : SC} (h : delC s = some r) (hr : RepSC I H Z w M v s) : RepSC I H Z w M v r := by
  cases s <;> simp only [delC] at h <;> injection h with h <;> subst h <;> first | exact hr | skip
  rw [show v = _ from hr]; exact RepC.bool _
theorem delCs_rep {I : Nat → Prop} {H : Nat → Value} {Z : Nat → Nat} {w : World} {M : Nat → Prop} : ∀ {l r : List SC} {us : List Value}, delCs l = some r → Pw (fun u c => RepSC I H Z w M u c) us l → Pw (fun u c => RepSC I H Z w M u c) us r
  | [], r, us, h, hp => by simp [delCs] at h; subst h; exact hp
  | s :: l, r, us, h, hp => by
    match us, hp with
    | [], hp => exact absurd hp.1 (by simp)
    | u :: us, hp =>
      have htail : Pw (fun u c => RepSC I H Z w M u c) us l := ⟨by simpa using hp.1, fun j c hc => by simpa using hp.2 (j + 1) c (by simpa using hc)⟩
      obtain ⟨u', hu', hr⟩ := hp.2 0 s rfl
      simp at hu'; subst hu'
      unfold delCs at h
      split at h
      · rename_i a' ha
        split at h
        · rename_i l' hl
          injection h with h; subst h
          exact Pw.cons (delC_rep ha hr) (delCs_rep hl htail)
        · cases h
      · cases h
theorem delV_rep {I : Nat → Prop} {H : Nat → Value} {Z : Nat → Nat} {w : World} {M : Nat → Prop} {v : Value} {s r : SV} (h : delV s = some r) (hr : RepSV I H Z w M v s) : RepSV I H Z w M v r := by
  cases s with
  | one s =>
    simp only [delV] at h
    split at h
    · rename_i hs; injection h with h; subst h; exact delC_rep hs hr
    · cases h
  | agg l =>
    simp only [delV] at h
    split at h
    · rename_i l' hs
      injection h with h; subst h
      obtain ⟨vs, h1, h2, h3⟩ := hr
      have := delCs_rep (us := vs.toList) hs ⟨by simpa using h2, fun j c hc => by simpa using h3 j c hc⟩
      exact ⟨vs, h1, by simpa using this.1, fun j c hc => by simpa using this.2 j c hc⟩
    · cases h
def evalD (tm : TM) (x : Operand) : Option SV :=
  match evalV tm x with
  | some s => delV s
  | none => none
theorem evalD_rep {C : Ctx} {H : Nat → Value} {Z : Nat → Nat} {n : Nat} {tm : TM} {mm : MM} {a : Act} {w : World} (h : Mod C H Z n tm mm a w)
    {x : Operand} {s : SV} (he : evalD tm x = some s) : RepSV (Iof mm) H Z w (Mof C H mm) (a.eval x) s := by
  unfold evalD at he
  split at he
  · rename_i s' hs; exact delV_rep he (evalV_rep h hs)
  · cases he

def resE (Θ : Tab) (tm : TM) (mm : MM) : List ResultVar → Option (List SV)
  | [] => some []
  | .tmp t :: r => match evalD tm (.tmp t) with
    | some s => match resE Θ tm mm r with
      | some l => some (s :: l)
      | none => none
    | none => none
  | .cell a t :: r => match tyGet Θ t with
    | some ⟨sz, _, ag, _, _⟩ => match evalC tm (.tmp a) with
      | some (.ptr i off) => match getM mm i with
        | some (.box cs) => match subL cs off sz with
          | some xs => match mkV id ag xs with
            | some s => match delV s, resE Θ tm mm r with
              | some s, some l => some (s :: l)
              | _, _ => none
            | none => none
          | none => none
        | _ => none
      | _ => none
    | none => none

def packS : List SV → ST
  | [s] => .v s
  | l => .tup l

theorem load_box {C : Ctx} {n : Nat} {tm : TM} {mm : MM} {Θ : Tab} (hΘ : tabOK C.P Θ) {t : TypeId} {ti : TyI} {x : Operand} {i off : Nat} {cs xs : List SC} {s : SV}
    (ht : tyGet Θ t = some ti) (hx : evalC tm x = some (.ptr i off)) (hi : getM mm i = some (.box cs))
    (hs : subL cs off ti.size = some xs) (hv : mkV id ti.agg xs = some s) {H : Nat → Value} {Z : Nat → Nat} {a : Act} {w : World} (hm : Mod C H Z n tm mm a w) :
    ∃ b v, a.eval x = .pointer (some ⟨b, off, none⟩) ∧ (loadVar t ⟨b, off, none⟩).run C.P w = .ok v w ∧ RepSV (Iof mm) H Z w (Mof C H mm) v s := by
  obtain ⟨inf, de, hf⟩ := tyF hΘ ht
  obtain ⟨b, ty, vs, h1, h2, _, h4⟩ := hm.box hi
  obtain ⟨_, b', hb', hv'⟩ := evalC_rep hm hx
  rw [h1] at hb'
  simp [hblk] at hb'
  subst hb'
  obtain ⟨e1, e2⟩ := subL_spec hs
  have hp : Pw (fun u c => RepSC (Iof mm) H Z w (Mof C H mm) u c) ((vs.toList.drop off).take ti.size) xs := by
    rw [e1]; exact ((h4.drop off).take _).mono fun _ _ _ h => h.2
  obtain ⟨v, hr, k1, k2⟩ := run_loadVar_pw (w := w) hf ⟨b, off, none⟩ ((vs.toList.drop off).take ti.size) (by rw [hp.1, e2]) (fun j u hu => by
    rw [add_mk, cell_of_row w b (off + j) vs ty _ h2]
    rw [List.getElem?_take] at hu
    split at hu
    · rw [List.getElem?_drop] at hu; simpa using hu
    · cases hu) (fun ha => by
      rw [hp.1]
      rw [ha] at hv
      unfold mkV at hv
      split at hv <;> first | (rename_i hh; cases hh; done) | rfl | (cases hv; done))
  exact ⟨b, v, hv', hr, mkV_rep hv hp k1 k2⟩

def resOp (tmps : Array Value) : ResultVar → Sem Value
  | .tmp t => pure (tmps.getD t undef)
  | .cell x t => do loadVar t (← asAddr (tmps.getD x undef))
theorem results_eq (fn : Func) (tmps : Array Value) : results fn tmps = (do
    let vs ← fn.results.mapM (resOp tmps)
    pure (if h : vs.size = 1 then vs[0] else .tuple vs)) := by
  unfold results
  congr 1

theorem resE_run {C : Ctx} {n : Nat} {tm : TM} {mm : MM} {Θ : Tab} (hΘ : tabOK C.P Θ) {H : Nat → Value} {Z : Nat → Nat} {a : Act} {w : World} (hm : Mod C H Z n tm mm a w) :
    ∀ {l : List ResultVar} {rs : List SV}, resE Θ tm mm l = some rs →
    ∃ vs : List Value, (l.mapM (m := Sem) (resOp a.tmps)).run C.P w = .ok vs w ∧ Pw (fun v s => RepSV (Iof mm) H Z w (Mof C H mm) v s) vs rs
  | [], rs, h => by
    simp [resE] at h; subst h
    exact ⟨[], by simp, Pw.nil⟩
  | .tmp t :: l, rs, h => by
    unfold resE at h
    split at h
    · rename_i s hs
      split at h
      · rename_i l' hl
        injection h with h; subst h
        obtain ⟨vs, h1, h2⟩ := resE_run hΘ hm hl
        refine ⟨a.tmps.getD t undef :: vs, ?_, Pw.cons (evalD_rep hm hs) h2⟩
        rw [List.mapM_cons]
        simp only [resOp, Sem.run_bind, Sem.run_pure, Result.andThen_ok, h1]
      · cases h
    · cases h
  | .cell x t :: l, rs, h => by
    unfold resE at h
    split at h
    · rename_i ht
      split at h
      · rename_i hx
        split at h
        · rename_i hi
          split at h
          · rename_i hs
            split at h
            · rename_i hv
              split at h
              · rename_i s' l' hdl hl
                injection h with h; subst h
                obtain ⟨vs, h1, h2⟩ := resE_run hΘ hm hl
                obtain ⟨b, v, g1, g2, g3⟩ := load_box hΘ ht hx hi hs hv hm
                have g3 := delV_rep hdl g3
                have g1' : a.tmps.getD x undef = .pointer (some ⟨b, _, none⟩) := g1
                refine ⟨v :: vs, ?_, Pw.cons g3 h2⟩
                rw [List.mapM_cons]
                have g4 : (resOp a.tmps (.cell x t)).run C.P w = .ok v w := by
                  simp only [resOp, Sem.run_bind, g1', asAddr, Sem.run_pure, Result.andThen_ok, g2]
                simp only [Sem.run_bind, Sem.run_pure, Result.andThen_ok, g4, h1]
              · cases h
            · cases h
          · cases h
        · cases h
      · cases h
    · cases h

theorem results_run {C : Ctx} {n : Nat} {tm : TM} {mm : MM} {Θ : Tab} (hΘ : tabOK C.P Θ) {H : Nat → Value} {Z : Nat → Nat} {a : Act} {w : World} (hm : Mod C H Z n tm mm a w)
    {fn : Func} {rs : List SV} (h : resE Θ tm mm fn.results.toList = some rs) :
    ∃ v, (results fn a.tmps).run C.P w = .ok v w ∧ RepST (Iof mm) H Z w (Mof C H mm) v (packS rs) := by
  obtain ⟨vs, h1, h2⟩ := resE_run hΘ hm h
  have hmm : (fn.results.mapM (m := Sem) (resOp a.tmps)).run C.P w = .ok vs.toArray w := by
    rw [Array.mapM_eq_mapM_toList]
    simp only [Sem.run_map, h1, Result.andThen_ok]
  have hrun : ∀ v, (if h : vs.toArray.size = 1 then vs.toArray[0] else .tuple vs.toArray) = v → (results fn a.tmps).run C.P w = .ok v w := by
    intro v hv
    rw [results_eq]
    simp only [Sem.run_bind, hmm, Result.andThen_ok, Sem.run_pure, hv]
  clear hmm h1
  match vs, rs, h2, hrun with
  | [], [], h2, hrun =>
    exact ⟨.tuple #[], hrun _ (by simp), #[], rfl, rfl, fun j c hc => by simp at hc⟩
  | [v], [s], h2, hrun =>
    obtain ⟨u, hu, hr⟩ := h2.2 0 s rfl
    simp at hu; subst hu
    exact ⟨v, hrun _ (by simp), hr⟩
  | v1 :: v2 :: vs, s1 :: s2 :: rs, h2, hrun =>
    refine ⟨.tuple (v1 :: v2 :: vs).toArray, hrun _ (by simp), (v1 :: v2 :: vs).toArray, rfl, by simpa using h2.1, fun j c hc => ?_⟩
    obtain ⟨u, hu, hr⟩ := h2.2 j c hc
    exact ⟨u, by simpa using hu, hr⟩
  | [], _ :: _, h2, _ => exact absurd h2.1 (by simp)
  | [_], [], h2, _ => exact absurd h2.1 (by simp)
  | [_], _ :: _ :: _, h2, _ => exact absurd h2.1 (by simp)
  | _ :: _ :: _, [], h2, _ => exact absurd h2.1 (by simp)
  | _ :: _ :: _, [_], h2, _ => exact absurd h2.1 (by simp)

/-! What a function is worth: 'pre': the variables handed in by address (frozen contents), 'post': what they hold afterwards. -/
def preMM : Nat → List (List CT) → MM
  | _, [] => []
  | i, cs :: r => (i, .box (cs.map SC.c)) :: preMM (i + 1) r

def blksOf (H : Nat → Value) (mm : MM) (b : Nat) : Prop := ∃ p ∈ mm, hblk (H p.1) = some b

structure Pre (w : World) (M0 : Nat → Prop) (H : Nat → Value) (Z : Nat → Nat) (mm : MM) : Prop where
  m0 : ∀ b, M0 b → b < w.heap.size
  mem : ∀ p ∈ mm, MemOK (Iof mm) H Z w (fun b => M0 b ∨ blksOf H mm b) p.1 p.2
  lt : ∀ p ∈ mm, ∀ b, hblk (H p.1) = some b → b < w.heap.size
  sep : ∀ p ∈ mm, ∀ q ∈ mm, p.1 ≠ q.1 → ∀ b, hblk (H p.1) = some b → hblk (H q.1) ≠ some b

def CallOK (P : Program) (f : FuncId) : Prop := ∀ (w : World) (args : Array Value), (callFunc f args).run P w = .ok (.enter f args) w
theorem callOK {P : Program} {f : FuncId} {fn : Func} {c : Code} (hf : P.funcs[f]? = some fn) (hb : fn.body = some c) (hn : (fn.name == "runtime.NumGoroutine") = false) : CallOK P f := by
  intro w args
  have hn' : ¬ fn.name = "runtime.NumGoroutine" := by simpa using hn
  simp [callFunc, program, Sem.run, hf, hb, hn']

structure Con (P : Program) (f : FuncId) (pre : List (List CT)) (args : List SV) (res : ST) (post : List (List CT)) : Prop where
  ok : CallOK P f
  calls : ∀ (w : World) (M0 : Nat → Prop) (H : Nat → Value) (Z : Nat → Nat) (vs : List Value), Pre w M0 H Z (preMM given pre) →
    Pw (fun v s => RepSV (Iof (preMM given pre)) H Z w (fun b => M0 b ∨ blksOf H (preMM given pre) b) v s) vs args →
    Calls P f vs.toArray w fun e w' => ∃ v, e = .returned v ∧ Ext (blksOf H (preMM given pre)) w w' ∧
      (∀ p ∈ preMM given post, MemOK (Iof (preMM given pre)) H Z w' (fun b => M0 b ∨ blksOf H (preMM given pre) b) p.1 p.2) ∧
      RepST (Iof (preMM given pre)) H Z w' (fun b => M0 b ∨ blksOf H (preMM given pre) b) v res

theorem preMM_ids : ∀ {l : List (List CT)} {i : Nat} {p : Nat × MO}, p ∈ preMM i l → i ≤ p.1 ∧ p.1 < i + l.length
  | [], i, p, h => by simp [preMM] at h
  | cs :: l, i, p, h => by
    unfold preMM at h
    rcases List.mem_cons.1 h with rfl | h
    · exact ⟨Nat.le_refl _, by simp⟩
    · obtain ⟨h1, h2⟩ := preMM_ids h
      exact ⟨by omega, by simp; omega⟩

theorem preMM_uniq : ∀ {l : List (List CT)} {i : Nat} {p q : Nat × MO}, p ∈ preMM i l → q ∈ preMM i l → p.1 = q.1 → p = q
  | [], i, p, q, h, _, _ => by simp [preMM] at h
  | cs :: l, i, p, q, hp, hq, he => by
    unfold preMM at hp hq
    rcases List.mem_cons.1 hp with rfl | hp <;> rcases List.mem_cons.1 hq with rfl | hq
    · rfl
    · have := (preMM_ids hq).1; simp only at he; omega
    · have := (preMM_ids hp).1; simp only at he; omega
    · exact preMM_uniq hp hq he

/-- The temporaries as a call begins. -/
def argT : Nat → List SV → TM
  | _, [] => []
  | i, s :: r => (i, .v s) :: argT (i + 1) r
theorem argT_mem : ∀ {l : List SV} {i : Nat} {p : Nat × ST}, p ∈ argT i l → ∃ j s, p = (i + j, .v s) ∧ l[j]? = some s
  | [], i, p, h => by simp [argT] at h
  | s :: l, i, p, h => by
    unfold argT at h
    rcases List.mem_cons.1 h with rfl | h
    · exact ⟨0, s, rfl, rfl⟩
    · obtain ⟨j, s', h1, h2⟩ := argT_mem h
      exact ⟨j + 1, s', by rw [h1]; congr 1; omega, by simpa using h2⟩

/-- What R says at the end of a call with these results. -/
def EndR (H : Nat → Value) (Z : Nat → Nat) (pre post : List (List CT)) (w : World) (M0 : Nat → Prop) (res : ST) (e : Ending) (w' : World) : Prop :=
  ∃ v, e = .returned v ∧ Ext (blksOf H (preMM given pre)) w w' ∧
      (∀ p ∈ preMM given post, MemOK (Iof (preMM given pre)) H Z w' (fun b => M0 b ∨ blksOf H (preMM given pre) b) p.1 p.2) ∧
      RepST (Iof (preMM given pre)) H Z w' (fun b => M0 b ∨ blksOf H (preMM given pre) b) v res

/-- A function's worth is shown by its body. -/
theorem con_of {P : Program} {f : FuncId} {fn : Func} {c : Code} {pre post : List (List CT)} {args : List SV} {res : ST}
    (hf : P.funcs[f]? = some fn) (hb : fn.body = some c) (hn : Nat.ble args.length fn.ntmps = true) (hng : Nat.ble fn.ntmps given = true) (hnm : (fn.name == "runtime.NumGoroutine") = false)
    (h : ∀ (w : World) (M0 : Nat → Prop) (H : Nat → Value) (Z : Nat → Nat),
      Goes ⟨P, w, M0, blksOf H (preMM given pre), H⟩ f fn.ntmps (EndR H Z pre post w M0 res) [.code c] (argT 0 args) (preMM given pre)) :
    Con P f pre args res post := by
  refine ⟨callOK hf hb hnm, ?_⟩
  intro w M0 H Z vs hpre hargs cs
  have hlen : vs.length = args.length := hargs.1
  let a : Act := { tmps := vs.toArray ++ Array.replicate (fn.ntmps - vs.toArray.size) undef, defers := [] }
  have hn := Nat.ble_eq.mp hn
  have hmod : Mod ⟨P, w, M0, blksOf H (preMM given pre), H⟩ H Z fn.ntmps (argT 0 args) (preMM given pre) a w := by
    refine ⟨rfl, by simp [a]; omega, Nat.ble_eq.mp hng, fun _ _ _ => rfl, Ext.refl _ _, hpre.m0, fun p hp q hq he => preMM_uniq hp hq he, hpre.mem, ?_, hpre.sep, ?_⟩
    · intro p hp b hb
      have := (preMM_ids hp).1
      exact ⟨.inr ⟨this, .inl ⟨p, hp, hb⟩⟩, hpre.lt p hp b hb⟩
    · intro p hp
      obtain ⟨j, s, rfl, hj⟩ := argT_mem hp
      obtain ⟨u, hu, hr⟩ := hargs.2 j s hj
      have hjl : j < vs.length := (List.getElem?_eq_some_iff.1 hu).1
      have : a.tmps.getD (0 + j) undef = u := by
        have hju : vs[j] = u := by
          have := List.getElem?_eq_getElem hjl
          rw [hu] at this
          injection this with this; exact this.symm
        simp [a, Array.getD_eq_getD_getElem?, Array.getElem?_append, hjl, hju]
      rw [this]
      exact hr
  let b : Frame := { (default : Frame) with fn := f, kind := .normal }
  have henter : Frame.enter P f vs.toArray .normal = b.at a [.code c] := by
    simp [Frame.enter, Frame.at, hf, hb, b, a]
  obtain ⟨e, w', fr, h1, h2, h3, h4⟩ := h w M0 H Z a w ⟨H, Z, hmod⟩ b cs rfl rfl
  rw [henter]
  exact ⟨e, w', fr, h1, h2, h3, h4⟩

/-- What is left of the variables handed in. -/
def postE (mm : MM) : Nat → Nat → Option (List (List CT))
  | _, 0 => some []
  | i, k + 1 => match getM mm i with
    | some (.box cs) => match ctsOf cs with
      | some l => match postE mm (i + 1) k with
        | some r => some (l :: r)
        | none => none
      | none => none
    | _ => none

theorem postE_spec {mm : MM} : ∀ {k i : Nat} {post : List (List CT)}, postE mm i k = some post →
    post.length = k ∧ (∀ p ∈ preMM i post, ∃ cs l, (p.1, MO.box cs) ∈ mm ∧ p.2 = .box (l.map SC.c) ∧ ctsOf cs = some l) ∧ (∀ j, i ≤ j → j < i + k → Iof mm j)
  | 0, i, post, h => by simp [postE] at h; subst h; exact ⟨rfl, fun p hp => by simp [preMM] at hp, fun j h1 h2 => by omega⟩
  | k + 1, i, post, h => by
    unfold postE at h
    split at h
    · rename_i cs hg
      split at h
      · rename_i l hl
        split at h
        · rename_i r hr
          injection h with h; subst h
          obtain ⟨h1, h2, h3⟩ := postE_spec hr
          refine ⟨by simp [h1], fun p hp => ?_, fun j hj1 hj2 => ?_⟩
          · unfold preMM at hp
            rcases List.mem_cons.1 hp with rfl | hp
            · exact ⟨cs, l, getM_mem hg, rfl, hl⟩
            · exact h2 p hp
          · by_cases hji : j = i
            · subst hji; exact ⟨_, getM_mem hg, rfl⟩
            · exact h3 j (by omega) (by omega)
        · cases h
      · cases h
    · cases h

/-- A value without ids. -/
def pureV : SV → Bool
  | .one (.c _) => true
  | .one _ => false
  | .agg xs => pureL xs
where
  pureL : List SC → Bool
    | [] => true
    | .c _ :: r => pureL r
    | _ :: _ => false
def pureS : ST → Bool
  | .v s => pureV s
  | .tup xs => pureVs xs
where
  pureVs : List SV → Bool
    | [] => true
    | s :: r => match pureV s with
      | true => pureVs r
      | false => false
theorem pureL_uses : ∀ {l : List SC}, pureV.pureL l = true → ∀ c ∈ l, c.uses = []
  | [], _, c, hc => by cases hc
  | s :: l, h, c, hc => by
    cases s <;> simp only [pureV.pureL] at h <;> try (cases h; done)
    rcases List.mem_cons.1 hc with rfl | hc
    · rfl
    · exact pureL_uses h c hc
theorem pureV_uses {s : SV} (h : pureV s = true) : s.uses = [] := by
  cases s with
  | one c => cases c <;> first | rfl | cases h
  | agg xs =>
    have := pureL_uses (l := xs) h
    simp only [SV.uses]
    exact List.flatMap_eq_nil_iff.2 this
theorem pureVs_uses : ∀ {l : List SV}, pureS.pureVs l = true → ∀ c ∈ l, c.uses = []
  | [], _, c, hc => by cases hc
  | s :: l, h, c, hc => by
    unfold pureS.pureVs at h
    split at h
    · rename_i hs
      rcases List.mem_cons.1 hc with rfl | hc
      · exact pureV_uses hs
      · exact pureVs_uses h c hc
    · cases h
theorem pureS_uses {s : ST} (h : pureS s = true) : s.uses = [] := by
  cases s with
  | v s => exact pureV_uses h
  | tup xs => exact List.flatMap_eq_nil_iff.2 (pureVs_uses h)

/-- The end of a body. -/
theorem g_end {P : Program} {w0 : World} {M0 : Nat → Prop} {f : FuncId} {n : Nat} {tm : TM} {mm : MM} {pre post : List (List CT)} {H : Nat → Value} {Z : Nat → Nat} {Θ : Tab} (hΘ : tabOK P Θ)
    {fn : Func} (hf : P.funcs[f]? = some fn) {rs : List SV} {res : ST} {post' : List (List CT)} {t : List Item} (ht : t = [] ∨ ∃ k, t = .code .ret :: k)
    (hr : resE Θ tm mm fn.results.toList = some rs) (hp : pureS (packS rs) = true) (hpost : postE mm given pre.length = some post')
    (he : packS rs = res ∧ post' = post) :
    Goes ⟨P, w0, M0, blksOf H (preMM given pre), H⟩ f n (EndR H Z pre post w0 M0 res) t tm mm := by
  obtain ⟨e1, e2⟩ := he
  subst e1 e2
  intro a w ⟨H', Z', hm⟩ b cs hb hk
  obtain ⟨v, h1, h2⟩ := results_run hΘ hm hr
  obtain ⟨p1, p2, p3⟩ := postE_spec hpost
  have hsub : ∀ q, (M0 q ∨ blksOf H (preMM given pre) q) → Mof ⟨P, w0, M0, blksOf H (preMM given pre), H⟩ H' mm q := by
    rintro q (hq | ⟨p, hp, hpb⟩)
    · exact .inl hq
    · obtain ⟨q1, q2⟩ := preMM_ids hp
      obtain ⟨r, hr1, hr2⟩ := p3 p.1 q1 q2
      refine .inr ⟨r, hr1, ?_⟩
      rw [hm.hg r hr1 (by rw [hr2]; exact q1), hr2]
      exact hpb
  have hfin : EndR H Z pre post' w0 M0 (packS rs) (.returned v) w := by
    refine ⟨v, rfl, hm.ext, fun p hp => ?_, h2.mono (fun i hi => by rw [pureS_uses hp] at hi; cases hi) (Nat.le_refl _) (fun _ _ _ => rfl) (fun q _ hq => hsub q hq)⟩
    obtain ⟨cs', l, hpm, hl, hcl⟩ := p2 p hp
    have hin := preMM_ids hp
    have h3 := hm.mem _ hpm
    have hh : H' p.1 = H p.1 := hm.hg (p.1, .box cs') hpm hin.1
    rw [hl]
    obtain ⟨b', ty, vs, g1, g2, g3, g4⟩ := h3
    have hpw : Pw (fun u c => RepSC (Iof mm) H' Z' w (Mof ⟨P, w0, M0, blksOf H (preMM given pre), H⟩ H' mm) u c) vs.toList cs' :=
      ⟨by simpa using g3, fun j c hc => let ⟨u, hu, _, hr⟩ := g4 j c hc; ⟨u, by simpa using hu, hr⟩⟩
    have hcp := ctsOf_pw hcl hpw
    refine ⟨b', ty, vs, by rw [← hh]; exact g1, g2, by simpa using hcp.1, fun j c hc => ?_⟩
    rw [List.getElem?_map] at hc
    cases hq : l[j]? with
    | none => rw [hq] at hc; cases hc
    | some ct =>
      rw [hq] at hc; injection hc with hc; subst hc
      obtain ⟨u, hu, hrep⟩ := hcp.2 j ct hq
      exact ⟨u, by simpa using hu, hrep.one, RepC.mono hrep (Nat.le_refl _) (fun _ _ _ => rfl) (fun q _ hq => hsub q hq)⟩
  rcases ht with rfl | ⟨k, rfl⟩
  · exact ⟨.returned v, w, _, hfin, Steps.one step_end, hb, rfl, hm.defers, hk, fn, hb ▸ hf, h1⟩
  · exact ⟨.returned v, w, _, hfin, Steps.one step_ret, hb, rfl, hm.defers, hk, fn, hb ▸ hf, h1⟩
end Go.Sy
