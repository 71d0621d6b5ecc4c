/- Symbolic states: many operations at once, by computation. -/
import Derived.Test.YthjpcefjgmklfaaSymH
namespace Go.Sy
set_option linter.unusedSimpArgs false
set_option linter.unusedVariables false
set_option linter.unusedSectionVars false
open Go.RowKit

def nthO : List Oper → Nat → Option Oper
  | [], _ => none
  | o :: _, 0 => some o
  | _ :: r, k + 1 => nthO r k
theorem nthO_eq : ∀ (l : List Oper) (j : Nat), nthO l j = l[j]?
  | [], j => by cases j <;> rfl
  | o :: l, 0 => rfl
  | o :: l, j + 1 => by simpa [nthO] using nthO_eq l j

def guardL (L : List Oper) (tm : TM) (o : Oper) : Option Bool :=
  match o.guard with
  | none => some true
  | some (j, want) =>
    match nthO L j with
    | none => none
    | some oj =>
      match oj.dst with
      | none => none
      | some t =>
        match lookB tm t with
        | none => isU tm t
        | some true => (match want with | true => some true | false => some false)
        | some false => (match want with | true => some false | false => some true)

theorem guardL_eq {L : List Oper} {tm : TM} {o : Oper} {b : Bool} (h : guardL L tm o = some b) : guardB L.toArray tm o = some b := by
  unfold guardL at h
  unfold guardB
  split at h
  · rename_i hg; rw [hg]; exact h
  · rename_i j want hg
    rw [hg]
    simp only [List.getElem?_toArray, ← nthO_eq]
    split at h
    · cases h
    · rename_i oj hoj
      simp only [hoj]
      split at h
      · cases h
      · rename_i t ht
        simp only [ht]
        split at h
        · rename_i hb; simp only [hb]; exact h
        · rename_i hb; simp only [hb]; cases want <;> simpa using h
        · rename_i hb; simp only [hb]; cases want <;> simpa using h

def delE (tm : TM) (d : Nat) : Option TM :=
  match tm with
  | [] => some []
  | (e, u) :: r => match Nat.beq e d with
    | true => delE r d
    | false => match delE r d with
      | some r' => some ((e, u) :: r')
      | none => none
theorem delE_eq {d : Nat} : ∀ {tm r : TM}, delE tm d = some r → r = delL tm d
  | [], r, h => by simp [delE] at h; subst h; rfl
  | (e, u) :: tm, r, h => by
    unfold delE at h
    unfold delL
    cases hb : Nat.beq e d with
    | true => rw [hb] at h; exact delE_eq h
    | false =>
      rw [hb] at h
      simp only at h
      split at h
      · rename_i r' hr'
        injection h with h; subst h
        rw [delE_eq hr']
      · cases h

def setE (n d : Nat) (st : ST) (tm : TM) : Option TM :=
  match Nat.blt d n with
  | true => match delE tm d with
    | some r => some ((d, st) :: r)
    | none => none
  | false => none
theorem setE_eq {n d : Nat} {st : ST} {tm r : TM} (h : setE n d st tm = some r) : Nat.blt d n = true ∧ r = (d, st) :: delL tm d := by
  unfold setE at h
  split at h
  · rename_i hb
    split at h
    · rename_i r' hr'
      injection h with h; subst h
      exact ⟨hb, by rw [delE_eq hr']⟩
    · cases h
  · cases h

def kEq : IntKind → IntKind → Bool
  | .i64, .i64 => true
  | .u8, .u8 => true
  | .u64, .u64 => true
  | .i32, .i32 => true
  | .u32, .u32 => true
  | .i8, .i8 => true
  | .i16, .i16 => true
  | .u16, .u16 => true
  | _, _ => false
theorem kEq_eq {k k' : IntKind} (h : kEq k k' = true) : k' = k := by cases k <;> cases k' <;> first | rfl | cases h

theorem op_idxArr {C : Ctx} {n : Nat} {tm : TM} {mm : MM} {o : Oper} {d : Nat} {Θ : Tab} (hΘ : tabOK C.P Θ) {t : TypeId} {x i : Operand} {z bts len e : Nat} {ag : Bool} {zr : Option (List CT)} {ei : TyI} {k : IntKind} {j : Nat} {s r : SC}
    (ho : o.op = .indexAddr t x i) (ht : tyGet Θ t = some ⟨z, bts, ag, zr, .arr len e⟩) (hei : tyGet Θ e = some ei)
    (hx : evalC tm x = some s) (hi : evalC tm i = some (.c (.int k (j : Int)))) (hj : Nat.blt j len = true) (hr : addSC s (j * ei.size) = some r) (hd : o.dst = some d) (hn : Nat.blt d n = true) :
    OpV C n o tm mm d (.v (.one r)) :=
  OpV.val hd hn _ fun H Z a w hm => by
    obtain ⟨inf, de, hf⟩ := tyF hΘ ht
    obtain ⟨inf', de', hf'⟩ := tyF hΘ hei
    have h2 : a.eval i = .int k (j : Int) := RepC.int_inv (evalC_rep hm hi)
    obtain ⟨ad, hv, hrep⟩ := addSC_rep hr (evalC_rep hm hx)
    have hde : de = .array len e := by
      have := hf.sh
      cases de <;> simp [shChk] at this ⊢
      exact this
    subst hde
    have hjl : j < len := Nat.blt_eq.mp hj
    refine ⟨.pointer (some (ad.add (j * ei.size))), ?_, hrep⟩
    simp [execOp, ho, hv, h2, Instr.indexAt, asIntOf, hf.underlying, Instr.sureAddr, hf'.sizeOf]
    intro hcon; omega

/-- Operations that give a value and leave memory alone. -/
def valE (Θ : Tab) (tm : TM) (mm : MM) : Op → Option ST
  | .move x => evalT tm x
  | .assign x => evalT tm x
  | .pick c x y => match evalC tm c with
    | some (.lit true) => evalT tm x
    | some (.lit false) => evalT tm y
    | _ => none
  | .unOp .not _ x => match evalB tm x with
    | some b => some (.v (.one (.c (.bool (!b)))))
    | _ => none
  | .binOp p t x y _ => match evalC tm x, evalC tm y with
    | some (.c (.int k a)), some (.c (.int k' b)) => match kEq k k' with
      | true => match cmpI p a b with
        | some r => some (.v (.one (.c (.bool r))))
        | none => none
      | false => none
    | some (.c (.str a)), some (.c (.str b)) => match cmpS p a b with
        | some r => some (.v (.one (.c (.bool r))))
        | none => none
    | _, _ => match evalB tm x, evalB tm y with
      | some a, some b => match tyGet Θ t with
        | some ⟨_, _, _, _, .bool⟩ => match p with
          | .eql => some (.v (.one (.c (.bool (a == b)))))
          | .neq => some (.v (.one (.c (.bool (a != b)))))
          | _ => none
        | _ => none
      | _, _ => none
  | .convert t t' x => match evalC tm x with
    | some (.c (.int k m)) => match tyGet Θ t, tyGet Θ t' with
      | some ⟨_, _, _, _, .int k0⟩, some ⟨_, _, _, _, .int k'⟩ => match kEq k k0 with
        | true => some (.v (.one (.c (.int k' (k'.wrap m)))))
        | false => none
      | _, _ => none
    | _ => none
  | .extract x i => match evalT tm x with
    | some (.tup xs) => match dropL xs i with
      | some (s :: _) => some (.v s)
      | _ => none
    | _ => none
  | .nilCheck x => match evalC tm x with
    | some (.ptr i off) => some (.v (.one (.ptr i off)))
    | some (.aptr i k off) => some (.v (.one (.aptr i k off)))
    | some (.eptr cs) => some (.v (.one (.eptr cs)))
    | _ => none
  | .load t x => match tyGet Θ t with
    | some ⟨sz, _, ag, _, _⟩ => match evalC tm x with
      | some (.ptr i off) => match getM mm i with
        | some (.box cs) => match subL cs off sz with
          | some xs => match mkV id ag xs with
            | some s => some (.v s)
            | none => none
          | none => none
        | _ => none
      | some (.eptr cs) => match takeL cs sz with
        | some xs => match mkV SC.c ag xs with
          | some s => some (.v s)
          | none => none
        | none => none
      | _ => none
    | none => none
  | .fieldAddr t x k => match tyGet Θ t with
    | some ⟨_, _, _, _, .struct fs⟩ => match fieldOff fs k with
      | some off => match evalC tm x with
        | some s => match addSC s off with
          | some r => some (.v (.one r))
          | none => none
        | none => none
      | none => none
    | _ => none
  | .indexAddr t x i => match tyGet Θ t with
    | some ⟨_, _, _, _, .arr len e⟩ => match tyGet Θ e with
      | some ⟨esz, _, _, _, _⟩ => match evalC tm i with
        | some (.c (.int _ (.ofNat j))) => match Nat.blt j len with
          | true => match evalC tm x with
            | some s => match addSC s (j * esz) with
              | some r => some (.v (.one r))
              | none => none
            | none => none
          | false => none
        | _ => none
      | none => none
    | _ => none
  | .makeFunc (.func f) ⟨[]⟩ caps => match capsOf tm caps.toList with
    | some ids => match ids.all (fun i => match getM mm i with | some (.box _) => true | _ => false) with
      | true => some (.v (.one (.clo f ids)))
      | false => none
    | none => none
  | .build t parts => match tyGet Θ t with
    | some ⟨_, _, true, some zr, .struct fs⟩ => match layL (structPlace Θ fs) tm (mkV.mapS SC.c zr) parts.toList with
      | some r => some (.v (.agg r))
      | none => none
    | some ⟨_, _, true, some zr, .arr _ e⟩ => match tyGet Θ e with
      | some ⟨esz, _, _, _, _⟩ => match layL (fun i => some (i * esz, esz)) tm (mkV.mapS SC.c zr) parts.toList with
        | some r => some (.v (.agg r))
        | none => none
      | none => none
    | _ => none
  | .call ⟨.builtin .len, ⟨[x]⟩, ⟨[t]⟩⟩ => match tyGet Θ t with
    | some ⟨_, _, _, _, .slice _⟩ => match evalC tm x with
      | some s => match lenOfC mm s with
        | some m => some (.v (.one (.c (.int .i64 m))))
        | none => none
      | none => none
    | some ⟨_, _, _, _, .string⟩ => match evalC tm x with
      | some (.c (.str s)) => some (.v (.one (.c (.int .i64 (s.size : Int)))))
      | _ => none
    | some ⟨_, _, _, _, .map _ _⟩ => match evalC tm x with
      | some (.mp i) => match getM mm i with
        | some (.mpo es) => some (.v (.one (.c (.int .i64 (es.length : Int)))))
        | _ => none
      | _ => none
    | _ => none
  | .call ⟨.builtin .min, ⟨[x, y]⟩, _⟩ => match evalC tm x, evalC tm y with
    | some (.c (.int k a)), some (.c (.int k' b)) => match kEq k k' with
      | true => some (.v (.one (.c (.int k (min a b)))))
      | false => none
    | _, _ => none
  | .call ⟨.builtin .max, ⟨[x, y]⟩, _⟩ => match evalC tm x, evalC tm y with
    | some (.c (.int k a)), some (.c (.int k' b)) => match kEq k k' with
      | true => some (.v (.one (.c (.int k (max a b)))))
      | false => none
    | _, _ => none
  | _ => none

section
variable {C : Ctx} {n : Nat} {tm : TM} {mm : MM} {o : Oper} {d : Nat} {Θ : Tab}

theorem valE_sound (hΘ : tabOK C.P Θ) {st : ST} (h : valE Θ tm mm o.op = some st) (hd : o.dst = some d) (hn : Nat.blt d n = true) :
    OpV C n o tm mm d st := by
  generalize ho : o.op = p at h
  unfold valE at h
  split at h
  · exact op_move ho h hd hn
  · exact op_assign ho h hd hn
  · split at h
    · rename_i hc; exact op_pick (b := true) ho hc h hd hn
    · rename_i hc; exact op_pick (b := false) ho hc h hd hn
    · cases h
  · split at h
    · rename_i hc; injection h with h; subst h; exact op_not ho hc hd hn
    · cases h
  · split at h
    · rename_i hx hy
      split at h
      · rename_i hk
        have := kEq_eq hk
        subst this
        split at h
        · rename_i hr; injection h with h; subst h; exact op_cmpI ho hx hy hr hd hn
        · cases h
      · cases h
    · rename_i hx hy
      split at h
      · rename_i hr; injection h with h; subst h; exact op_cmpS ho hx hy hr hd hn
      · cases h
    · split at h
      · rename_i hx hy
        split at h
        · rename_i ht
          split at h
          · injection h with h; subst h; exact op_cmpB hΘ ho ht (.inl rfl) hx hy hd hn
          · injection h with h; subst h; exact op_cmpB hΘ ho ht (.inr rfl) hx hy hd hn
          · cases h
        · cases h
      · cases h
  · split at h
    · rename_i hx
      split at h
      · rename_i ht ht'
        split at h
        · rename_i hk
          have := kEq_eq hk
          subst this
          injection h with h; subst h; exact op_convI hΘ ho ht ht' hx hd hn
        · cases h
      · cases h
    · cases h
  · split at h
    · rename_i hx
      split at h
      · rename_i s r hs
        injection h with h; subst h
        refine op_extract ho hx ?_ hd hn
        have := dropL_spec hs
        have h2 := congrArg (fun l : List SV => l[0]?) this
        simpa using h2.symm
      · cases h
    · cases h
  · split at h
    · rename_i hx; injection h with h; subst h; exact op_nilCheck ho hx rfl hd hn
    · rename_i hx; injection h with h; subst h; exact op_nilCheck ho hx rfl hd hn
    · rename_i hx; injection h with h; subst h; exact op_nilCheck ho hx rfl hd hn
    · cases h
  · split at h
    · rename_i ht
      split at h
      · rename_i hx
        split at h
        · rename_i hi
          split at h
          · rename_i hs
            split at h
            · rename_i hv; injection h with h; subst h; exact op_load_box hΘ ho ht hx hi hs hv hd hn
            · cases h
          · cases h
        · cases h
      · rename_i hx
        split at h
        · rename_i hs
          split at h
          · rename_i hv; injection h with h; subst h; exact op_load_eptr hΘ ho ht hx hs hv hd hn
          · cases h
        · cases h
      · cases h
    · cases h
  · split at h
    · rename_i ht
      split at h
      · rename_i hk
        split at h
        · rename_i hx
          split at h
          · rename_i hr; injection h with h; subst h; exact op_fieldAddr hΘ ho ht hx hk hr hd hn
          · cases h
        · cases h
      · cases h
    · cases h
  · split at h
    · rename_i ht
      split at h
      · rename_i hei
        split at h
        · rename_i hi
          split at h
          · rename_i hj
            split at h
            · rename_i hx
              split at h
              · rename_i hr; injection h with h; subst h; exact op_idxArr hΘ ho ht hei hx hi hj hr hd hn
              · cases h
            · cases h
          · cases h
        · cases h
      · cases h
    · cases h
  · split at h
    · rename_i hc
      split at h
      · rename_i hb; injection h with h; subst h; exact op_makeFunc ho hc hb hd hn
      · cases h
    · cases h
  · split at h
    · rename_i ht
      split at h
      · rename_i hl; injection h with h; subst h; exact op_build_struct hΘ ho ht hl hd hn
      · cases h
    · rename_i ht
      split at h
      · rename_i hei
        split at h
        · rename_i hl; injection h with h; subst h; exact op_build_array hΘ ho ht hei hl hd hn
        · cases h
      · cases h
    · cases h
  · split at h
    · rename_i ht
      split at h
      · rename_i hx
        split at h
        · rename_i hm; injection h with h; subst h; exact op_len_slice hΘ ho ht hx hm hd hn
        · cases h
      · cases h
    · rename_i ht
      split at h
      · rename_i hx; injection h with h; subst h; exact op_len_str hΘ ho ht hx hd hn
      · cases h
    · rename_i ht
      split at h
      · rename_i hx
        split at h
        · rename_i hi; injection h with h; subst h; exact op_len_map hΘ ho ht hx hi hd hn
        · cases h
      · cases h
    · cases h
  · split at h
    · rename_i hx hy
      split at h
      · rename_i hk
        have := kEq_eq hk
        subst this
        injection h with h; subst h; exact op_min ho hx hy hd hn
      · cases h
    · cases h
  · split at h
    · rename_i hx hy
      split at h
      · rename_i hk
        have := kEq_eq hk
        subst this
        injection h with h; subst h; exact op_max ho hx hy hd hn
      · cases h
    · cases h
  · cases h
end

def updE (mm : MM) (i : Nat) (o : MO) : Option MM :=
  match mm with
  | [] => some []
  | (e, u) :: r => match updE r i o with
    | some r' => match Nat.beq e i with
      | true => some ((e, o) :: r')
      | false => some ((e, u) :: r')
    | none => none
theorem updE_eq {i : Nat} {o : MO} : ∀ {mm r : MM}, updE mm i o = some r → r = updM mm i o
  | [], r, h => by simp [updE] at h; subst h; rfl
  | (e, u) :: mm, r, h => by
    unfold updE at h
    unfold updM
    split at h
    · rename_i r' hr'
      have := updE_eq hr'
      subst this
      cases hb : Nat.beq e i <;> rw [hb] at h <;> (injection h with h; exact h.symm)
    · cases h

/-- Operations that make or write a variable. -/
def memE (Θ : Tab) (n : Nat) (tm : TM) (mm : MM) (o : Oper) : Option (TM × MM) :=
  match o.dst with
  | some d => match getM mm d with
    | some _ => none
    | none => match o.op with
      | .box _ x => match evalV tm x with
        | some s => match s.cells.all SC.known with
          | true => match setE n d (.v (.one (.ptr d 0))) tm with
            | some tm' => match nrmL s.cells with
              | some cs => some (tm', (d, .box cs) :: mm)
              | none => none
            | none => none
          | false => none
        | none => none
      | .alloc e => match tyGet Θ e with
        | some ⟨_, _, _, some zr, _⟩ => match setE n d (.v (.one (.ptr d 0))) tm with
          | some tm' => match nrmL (mkV.mapS SC.c zr) with
            | some cs => some (tm', (d, .box cs) :: mm)
            | none => none
          | none => none
        | _ => none
      | .makeMap _ none => match setE n d (.v (.one (.mp d))) tm with
        | some tm' => some (tm', (d, .mpo []) :: mm)
        | none => none
      | .buildSlice t len parts => match tyGet Θ t with
        | some ⟨_, _, _, _, .slice e⟩ => match tyGet Θ e with
          | some ⟨esz, _, _, some _, _⟩ => match Nat.ble (len * esz) 16777216, Nat.blt 0 esz with
            | true, true => match layL (fun i => some (i * esz, esz)) tm (anyL (len * esz)) parts.toList with
              | some r => match ctsOf r with
                | some cts => match chunkL esz len cts with
                  | some xs => match setE n d (.v (.one (.own d))) tm with
                    | some tm' => some (tm', (d, .arr true e esz xs) :: mm)
                    | none => none
                  | none => none
                | none => none
              | none => none
            | _, _ => none
          | _ => none
        | _ => none
      | _ => none
  | none => match o.op with
    | .store t x y => match tyGet Θ t with
      | some ⟨sz, _, _, _, _⟩ => match evalC tm x with
        | some (.ptr i off) => match getM mm i with
          | some (.box cs) => match evalV tm y with
            | some s => match s.cells.all SC.known with
              | true => match Nat.beq s.cells.length sz with
                | true => match spliceL cs off s.cells with
                  | some r => match updE mm i (.box r) with
                    | some mm' => some (tm, mm')
                    | none => none
                  | none => none
                | false => none
              | false => none
            | none => none
          | _ => none
        | _ => none
      | none => none
    | _ => none
where
  nrmL : List SC → Option (List SC)
    | [] => some []
    | a :: r => match nrmL r with
      | some r' => some (a :: r')
      | none => none
theorem nrmL_eq : ∀ {l r : List SC}, memE.nrmL l = some r → r = l
  | [], r, h => by simp [memE.nrmL] at h; exact h
  | a :: l, r, h => by
    unfold memE.nrmL at h
    split at h
    · rename_i r' hr'; injection h with h; subst h; rw [nrmL_eq hr']
    · cases h

theorem memE_sound {C : Ctx} {n : Nat} {tm tm' : TM} {mm mm' : MM} {o : Oper} {Θ : Tab} (hΘ : tabOK C.P Θ) (h : memE Θ n tm mm o = some (tm', mm')) : OpR C n o tm mm tm' mm' := by
  unfold memE at h
  split at h
  · rename_i d hd
    split at h
    · cases h
    · rename_i hi
      split at h
      · rename_i ho
        split at h
        · rename_i hx
          split at h
          · rename_i hk
            split at h
            · rename_i hs
              split at h
              · rename_i hl
                obtain ⟨hn, rfl⟩ := setE_eq hs
                injection h with h; injection h with h1 h2; subst h1 h2
                rw [nrmL_eq hl]
                exact op_box ho hx hk hi hd hn
              · cases h
            · cases h
          · cases h
        · cases h
      · rename_i ho
        split at h
        · rename_i ht
          split at h
          · rename_i hs
            split at h
            · rename_i hl
              obtain ⟨hn, rfl⟩ := setE_eq hs
              injection h with h; injection h with h1 h2; subst h1 h2
              rw [nrmL_eq hl, mapS_eq]
              exact op_alloc hΘ ho ht hi hd hn
            · cases h
          · cases h
        · cases h
      · rename_i ho
        split at h
        · rename_i hs
          obtain ⟨hn, rfl⟩ := setE_eq hs
          injection h with h; injection h with h1 h2; subst h1 h2
          exact op_makeMap ho hi hd hn
        · cases h
      · rename_i ho
        split at h
        · rename_i ht
          split at h
          · rename_i hei
            split at h
            · rename_i hb hs0
              split at h
              · rename_i hl
                split at h
                · rename_i hc
                  split at h
                  · rename_i hx
                    split at h
                    · rename_i hs
                      obtain ⟨hn, rfl⟩ := setE_eq hs
                      injection h with h; injection h with h1 h2; subst h1 h2
                      exact op_buildSlice hΘ ho ht hei rfl hb hs0 hl hc hx hi hd hn
                    · cases h
                  · cases h
                · cases h
              · cases h
            · cases h
          · cases h
        · cases h
      · cases h
  · rename_i hd
    split at h
    · rename_i ho
      split at h
      · rename_i ht
        split at h
        · rename_i hx
          split at h
          · rename_i hi
            split at h
            · rename_i hy
              split at h
              · rename_i hk
                split at h
                · rename_i hsz
                  split at h
                  · rename_i hs
                    split at h
                    · rename_i hu
                      injection h with h; injection h with h1 h2; subst h1 h2
                      rw [updE_eq hu]
                      exact op_store_box hΘ ho ht hx hi hy hk hsz hs hd
                    · cases h
                  · cases h
                · cases h
              · cases h
            · cases h
          · cases h
        · cases h
      · cases h
    · cases h

/-! Bringing a state into order: the heads of all that stands in it are computed. -/
def nrmC : SC → Option SC
  | .c x => some (.c x)
  | .lit b => some (.lit b)
  | .ptr i o => some (.ptr i o)
  | .aptr i k o => some (.aptr i k o)
  | .eptr cs => some (.eptr cs)
  | .own i => some (.own i)
  | .mp i => some (.mp i)
  | .clo f l => some (.clo f l)
  | .any => some .any
theorem nrmC_eq {s r : SC} (h : nrmC s = some r) : r = s := by cases s <;> (injection h with h; exact h.symm)
def nrmCs : List SC → Option (List SC)
  | [] => some []
  | a :: l => match nrmC a with
    | some a' => match nrmCs l with
      | some l' => some (a' :: l')
      | none => none
    | none => none
theorem nrmCs_eq : ∀ {l r : List SC}, nrmCs l = some r → r = l
  | [], r, h => by simp [nrmCs] at h; exact h
  | a :: l, r, h => by
    unfold nrmCs at h
    split at h
    · rename_i a' ha
      split at h
      · rename_i l' hl; injection h with h; subst h; rw [nrmC_eq ha, nrmCs_eq hl]
      · cases h
    · cases h
def nrmV : SV → Option SV
  | .one s => match nrmC s with
    | some s' => some (.one s')
    | none => none
  | .agg l => match nrmCs l with
    | some l' => some (.agg l')
    | none => none
theorem nrmV_eq {s r : SV} (h : nrmV s = some r) : r = s := by
  cases s <;> simp only [nrmV] at h <;> split at h <;> first | (cases h; done) | skip
  · rename_i hs; injection h with h; subst h; rw [nrmC_eq hs]
  · rename_i hs; injection h with h; subst h; rw [nrmCs_eq hs]
def nrmVs : List SV → Option (List SV)
  | [] => some []
  | a :: l => match nrmV a with
    | some a' => match nrmVs l with
      | some l' => some (a' :: l')
      | none => none
    | none => none
theorem nrmVs_eq : ∀ {l r : List SV}, nrmVs l = some r → r = l
  | [], r, h => by simp [nrmVs] at h; exact h
  | a :: l, r, h => by
    unfold nrmVs at h
    split at h
    · rename_i a' ha
      split at h
      · rename_i l' hl; injection h with h; subst h; rw [nrmV_eq ha, nrmVs_eq hl]
      · cases h
    · cases h
def nrmS : ST → Option ST
  | .v s => match nrmV s with
    | some s' => some (.v s')
    | none => none
  | .tup l => match nrmVs l with
    | some l' => some (.tup l')
    | none => none
theorem nrmS_eq {s r : ST} (h : nrmS s = some r) : r = s := by
  cases s <;> simp only [nrmS] at h <;> split at h <;> first | (cases h; done) | skip
  · rename_i hs; injection h with h; subst h; rw [nrmV_eq hs]
  · rename_i hs; injection h with h; subst h; rw [nrmVs_eq hs]
def nrmT : TM → Option TM
  | [] => some []
  | (t, s) :: l => match nrmS s with
    | some s' => match nrmT l with
      | some l' => some ((t, s') :: l')
      | none => none
    | none => none
theorem nrmT_eq : ∀ {l r : TM}, nrmT l = some r → r = l
  | [], r, h => by simp [nrmT] at h; exact h
  | (t, s) :: l, r, h => by
    unfold nrmT at h
    split at h
    · rename_i s' hs
      split at h
      · rename_i l' hl; injection h with h; subst h; rw [nrmS_eq hs, nrmT_eq hl]
      · cases h
    · cases h
def nrmO : MO → Option MO
  | .box cs => match nrmCs cs with
    | some cs' => some (.box cs')
    | none => none
  | .arr nn e sz xs => some (.arr nn e sz xs)
  | .mpo es => some (.mpo es)
theorem nrmO_eq {s r : MO} (h : nrmO s = some r) : r = s := by
  cases s <;> simp only [nrmO] at h
  · split at h
    · rename_i hs; injection h with h; subst h; rw [nrmCs_eq hs]
    · cases h
  · injection h with h; exact h.symm
  · injection h with h; exact h.symm
def nrmM : MM → Option MM
  | [] => some []
  | (t, s) :: l => match nrmO s with
    | some s' => match nrmM l with
      | some l' => some ((t, s') :: l')
      | none => none
    | none => none
theorem nrmM_eq : ∀ {l r : MM}, nrmM l = some r → r = l
  | [], r, h => by simp [nrmM] at h; exact h
  | (t, s) :: l, r, h => by
    unfold nrmM at h
    split at h
    · rename_i s' hs
      split at h
      · rename_i l' hl; injection h with h; subst h; rw [nrmO_eq hs, nrmM_eq hl]
      · cases h
    · cases h

inductive Out where
  | stop (l : List Oper) (tm : TM) (mm : MM)
  | bad

def goE (Θ : Tab) (n : Nat) (L : List Oper) : List Oper → TM → MM → Out
  | [], tm, mm => .stop [] tm mm
  | o :: r, tm, mm => match guardL L tm o with
    | some true => match o.dst, valE Θ tm mm o.op with
      | some d, some st => match setE n d st tm with
        | some tm' => goE Θ n L r tm' mm
        | none => .stop (o :: r) tm mm
      | _, _ => match memE Θ n tm mm o with
        | some (tm', mm') => goE Θ n L r tm' mm'
        | none => .stop (o :: r) tm mm
    | some false => match o.dst with
      | some d => match setE n d (.tup []) tm with
        | some tm' => goE Θ n L r tm' mm
        | none => .stop (o :: r) tm mm
      | none => goE Θ n L r tm mm
    | none => .stop (o :: r) tm mm

theorem goE_sound {C : Ctx} {n : Nat} {Θ : Tab} (hΘ : tabOK C.P Θ) {L : List Oper} {T : TM → MM → Prop} : ∀ {l : List Oper} {tm : TM} {mm : MM} {l' : List Oper} {tm' : TM} {mm' : MM},
    goE Θ n L l tm mm = .stop l' tm' mm' → SOps C n L.toArray l' tm' mm' T → SOps C n L.toArray l tm mm T
  | [], tm, mm, l', tm', mm', h, k => by
    simp only [goE, Out.stop.injEq] at h
    obtain ⟨rfl, rfl, rfl⟩ := h
    exact k
  | o :: r, tm, mm, l', tm', mm', h, k => by
    have same : Out.stop (o :: r) tm mm = .stop l' tm' mm' → SOps C n L.toArray (o :: r) tm mm T := by
      intro e
      injection e with e1 e2 e3
      subst e1 e2 e3
      exact k
    unfold goE at h
    split at h
    · rename_i hg
      have hg' := guardL_eq hg
      split at h
      · rename_i d st hd hv
        split at h
        · rename_i tm1 hs
          obtain ⟨hn, rfl⟩ := setE_eq hs
          exact SOps.step hg' (valE_sound hΘ hv hd hn).wp (goE_sound hΘ h k)
        · exact same h
      · split at h
        · rename_i hm
          exact SOps.step hg' (memE_sound hΘ hm).wp (goE_sound hΘ h k)
        · exact same h
    · rename_i hg
      have hg' := guardL_eq hg
      split at h
      · rename_i d hd
        split at h
        · rename_i tm1 hs
          obtain ⟨hn, rfl⟩ := setE_eq hs
          exact SOps.skipU hg' hd hn (goE_sound hΘ h k)
        · exact same h
      · rename_i hd
        refine SOps.skip hg' ?_
        rw [hd]
        exact goE_sound hΘ h k
    · exact same h

def runE (Θ : Tab) (n : Nat) (L : List Oper) (l : List Oper) (tm : TM) (mm : MM) : Option Out :=
  match nrmT tm with
  | some tm' => match nrmM mm with
    | some mm' => match goE Θ n L l tm' mm' with
      | .stop a b c => some (.stop a b c)
      | .bad => none
    | none => none
  | none => none

theorem run_ {C : Ctx} {n : Nat} {Θ : Tab} (hΘ : tabOK C.P Θ) {L : List Oper} {T : TM → MM → Prop} {l : List Oper} {tm : TM} {mm : MM} {l' : List Oper} {tm' : TM} {mm' : MM}
    (h : runE Θ n L l tm mm = some (.stop l' tm' mm')) (k : SOps C n L.toArray l' tm' mm' T) : SOps C n L.toArray l tm mm T := by
  unfold runE at h
  split at h
  · rename_i tm1 h1
    split at h
    · rename_i mm1 h2
      rw [← nrmT_eq h1, ← nrmM_eq h2]
      split at h
      · rename_i a b c h3
        injection h with h
        injection h with e1 e2 e3
        subst e1 e2 e3
        exact goE_sound hΘ h3 k
      · cases h
    · cases h
  · cases h
end Go.Sy
