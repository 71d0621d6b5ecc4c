/- Symbolic states over the machine: what a cell, a value, a block of memory stands for; what stays when the world grows. No program in sight. -/
import Derived.Calls
import Derived.Orders
import Derived.Below
import Derived.Maps.AppendAt
import Derived.Laws.Rows
import Derived.Laws.CopyRow
namespace Go.Sy
set_option linter.unusedSimpArgs false
set_option linter.unusedVariables false
set_option linter.unusedSectionVars false
open Go.RowKit

/-- A frozen cell: a number, a bool, a string, a slice with all that lies behind it. -/
inductive CT where
  | int (k : IntKind) (n : Int)
  | bool (b : Bool)
  | str (s : ByteArray)
  | nils
  | intP (k : IntKind) (p : Int → Prop)
  | slice (nn : Bool) (sz : Nat) (xs : List (List CT))

/-- A value stands for a frozen cell; none of what is read lies in a block of M. -/
inductive RepC (w : World) (M : Nat → Prop) : Value → CT → Prop
  | int (k : IntKind) (n : Int) : RepC w M (.int k n) (.int k n)
  | bool (b : Bool) : RepC w M (.bool b) (.bool b)
  | str (s : ByteArray) : RepC w M (.string s) (.str s)
  | nils : RepC w M (.slice none 0 0) .nils
  | intP (k : IntKind) (n : Int) {p : Int → Prop} (h : p n) : RepC w M (.int k n) (.intP k p)
  | slice {nn : Bool} {sz : Nat} {xs : List (List CT)} {a : Option Addr} {len cap : Nat} (u : Nat → Nat → Value)
      (hlen : len = xs.length) (hcap : len ≤ cap) (hmax : cap ≤ maxLen) (hnn : nn = true → a.isSome = true)
      (hsz : ∀ x ∈ xs, x.length = sz)
      (had : 0 < xs.length → ∃ ad, a = some ad ∧ ad.spot = none ∧ ad.block < w.heap.size ∧ ¬ M ad.block ∧
        ∀ (i : Nat) (x : List CT), xs[i]? = some x → ∀ (j : Nat) (c : CT), x[j]? = some c → w.cell? (ad.add (i * sz + j)) = some (u i j))
      (hrep : ∀ (i : Nat) (x : List CT), xs[i]? = some x → ∀ (j : Nat) (c : CT), x[j]? = some c → RepC w M (u i j) c) : RepC w M (.slice a len cap) (.slice nn sz xs)

theorem RepC.one {w : World} {M : Nat → Prop} {v : Value} {c : CT} (h : RepC w M v c) : v.oneCell' = true := by
  cases h <;> rfl
theorem RepC.bool_inv {w : World} {M : Nat → Prop} {v : Value} {b : Bool} (h : RepC w M v (.bool b)) : v = .bool b := by cases h; rfl
theorem RepC.int_inv {w : World} {M : Nat → Prop} {v : Value} {k : IntKind} {n : Int} (h : RepC w M v (.int k n)) : v = .int k n := by cases h; rfl
theorem RepC.str_inv {w : World} {M : Nat → Prop} {v : Value} {s : ByteArray} (h : RepC w M v (.str s)) : v = .string s := by cases h; rfl
theorem RepC.nils_inv {w : World} {M : Nat → Prop} {v : Value} (h : RepC w M v .nils) : v = .slice none 0 0 := by cases h; rfl
theorem RepC.intP_inv {w : World} {M : Nat → Prop} {v : Value} {k : IntKind} {p : Int → Prop} (h : RepC w M v (.intP k p)) : ∃ n, p n ∧ v = .int k n := by cases h; exact ⟨_, ‹_›, rfl⟩
theorem RepC.cells {w : World} {M : Nat → Prop} {v : Value} {c : CT} (h : RepC w M v c) : v.cells = #[v] := by
  cases h <;> rfl

/-- What has stayed: outside X every block is as it was. -/
structure Ext (X : Nat → Prop) (w w' : World) : Prop where
  os : w'.os = w.os
  tape : w'.tape = w.tape
  output : w'.output = w.output
  size : w.heap.size ≤ w'.heap.size
  block : ∀ k, k < w.heap.size → ¬ X k → w'.heap[k]? = w.heap[k]?

theorem Ext.refl (X : Nat → Prop) (w : World) : Ext X w w := ⟨rfl, rfl, rfl, Nat.le_refl _, fun _ _ _ => rfl⟩
theorem Ext.trans {X Y : Nat → Prop} {a b c : World} (h : Ext X a b) (k : Ext Y b c) (hy : ∀ n, n < a.heap.size → Y n → X n) : Ext X a c :=
  ⟨k.os.trans h.os, k.tape.trans h.tape, k.output.trans h.output, Nat.le_trans h.size k.size, fun i hi hx =>
    (k.block i (Nat.lt_of_lt_of_le hi h.size) (fun hyi => hx (hy i hi hyi))).trans (h.block i hi hx)⟩
theorem Ext.weak {X Y : Nat → Prop} {a b : World} (h : Ext X a b) (hy : ∀ n, n < a.heap.size → X n → Y n) : Ext Y a b :=
  ⟨h.os, h.tape, h.output, h.size, fun i hi hx => h.block i hi (fun hh => hx (hy i hi hh))⟩
theorem Ext.below {a b : World} (h : Ext (fun _ => False) a b) : Below a.heap.size a b :=
  ⟨h.os, h.tape, h.output, h.size, fun k hk => h.block k hk (fun x => x)⟩

theorem cell_lt {w : World} {a : Addr} {v : Value} (h : w.cell? a = some v) : a.block < w.heap.size := by
  rcases Nat.lt_or_ge a.block w.heap.size with h1 | h1
  · exact h1
  · simp [World.cell?, Array.getElem?_eq_none h1] at h

theorem add_block (a : Addr) (n : Nat) : (a.add n).block = a.block := by unfold Addr.add; split <;> rfl
theorem add_spot {a : Addr} (h : a.spot = none) (n : Nat) : (a.add n).spot = none := by unfold Addr.add; split <;> simp_all
theorem add_add (a : Addr) (i j : Nat) : (a.add i).add j = a.add (i + j) := by
  unfold Addr.add
  by_cases hi : i = 0 <;> by_cases hj : j = 0 <;> simp [hi, hj, Nat.add_assoc]
theorem add_mk (b o n : Nat) : (⟨b, o, none⟩ : Addr).add n = ⟨b, o + n, none⟩ := by
  unfold Addr.add; split <;> simp_all

theorem RepC.mono {w w' : World} {M M' : Nat → Prop} {v : Value} {x : CT} (h : RepC w M v x)
    (hs : w.heap.size ≤ w'.heap.size) (hb : ∀ b, b < w.heap.size → ¬ M b → w'.heap[b]? = w.heap[b]?)
    (hM : ∀ b, b < w.heap.size → M' b → M b) : RepC w' M' v x := by
  induction h with
  | int k n => exact .int k n
  | bool b => exact .bool b
  | str s => exact .str s
  | nils => exact .nils
  | intP k n h => exact .intP k n h
  | slice u hlen hcap hmax hnn hsz had hrep ih =>
    refine .slice u hlen hcap hmax hnn hsz (fun hp => ?_) ih
    obtain ⟨ad, h1, h2, h3, h4, h5⟩ := had hp
    refine ⟨ad, h1, h2, Nat.lt_of_lt_of_le h3 hs, fun hm => h4 (hM _ h3 hm), fun i x hx j c hc => ?_⟩
    rw [World.cell?_of_block (w := w) (by rw [add_block]; exact hb _ h3 h4)]
    exact h5 i x hx j c hc

/-- A frozen value: one cell, or a struct's (an array's) cells. -/
inductive FV where
  | one (c : CT)
  | agg (cs : List CT)

def RepF (w : World) (M : Nat → Prop) (v : Value) : FV → Prop
  | .one c => RepC w M v c
  | .agg cs => ∃ vs : Array Value, v = .agg vs ∧ vs.size = cs.length ∧ ∀ (j : Nat) (c : CT), cs[j]? = some c → ∃ u : Value, vs[j]? = some u ∧ RepC w M u c

theorem RepF.mono {w w' : World} {M M' : Nat → Prop} {v : Value} {x : FV} (h : RepF w M v x)
    (hs : w.heap.size ≤ w'.heap.size) (hb : ∀ b, b < w.heap.size → ¬ M b → w'.heap[b]? = w.heap[b]?)
    (hM : ∀ b, b < w.heap.size → M' b → M b) : RepF w' M' v x := by
  cases x with
  | one c => exact RepC.mono h hs hb hM
  | agg cs =>
    obtain ⟨vs, h1, h2, h3⟩ := h
    exact ⟨vs, h1, h2, fun j c hc => let ⟨u, hu, hr⟩ := h3 j c hc; ⟨u, hu, hr.mono hs hb hM⟩⟩

/-- A symbolic cell. -/
inductive SC where
  | c (x : CT)
  | lit (b : Bool)
  | ptr (i off : Nat)
  | aptr (i k off : Nat)
  | eptr (cs : List CT)
  | own (i : Nat)
  | mp (i : Nat)
  | clo (f : FuncId) (caps : List Nat)
  | any

inductive SV where
  | one (x : SC)
  | agg (xs : List SC)

inductive ST where
  | v (x : SV)
  | tup (xs : List SV)

/-- What lies in memory and belongs to the call: a variable, a growing slice, a map. -/
inductive MO where
  | box (cs : List SC)
  | arr (nn : Bool) (e : TypeId) (sz : Nat) (xs : List (List CT))
  | mpo (es : List (FV × FV))

abbrev TM := List (Nat × ST)
abbrev MM := List (Nat × MO)

def hblk : Value → Option Nat
  | .pointer (some a) => some a.block
  | .slice (some a) _ _ => some a.block
  | .map (some r) => some r
  | _ => none

def SC.uses : SC → List Nat
  | .c _ | .lit _ | .eptr _ | .any => []
  | .ptr i _ | .aptr i _ _ | .own i | .mp i => [i]
  | .clo _ caps => caps

/-- H: each id's handle; sz: cells of an element of an array id (for pointers to elements). -/
def RepSC (I : Nat → Prop) (H : Nat → Value) (Z : Nat → Nat) (w : World) (M : Nat → Prop) (v : Value) : SC → Prop
  | .c x => RepC w M v x
  | .lit b => v = .bool b
  | .ptr i off => I i ∧ ∃ b, hblk (H i) = some b ∧ v = .pointer (some ⟨b, off, none⟩)
  | .aptr i k off => I i ∧ ∃ b, hblk (H i) = some b ∧ v = .pointer (some ⟨b, k * Z i + off, none⟩)
  | .eptr cs => ∃ ad, v = .pointer (some ad) ∧ ad.spot = none ∧ ad.block < w.heap.size ∧ ¬ M ad.block ∧
      ∀ (j : Nat) (c : CT), cs[j]? = some c → ∃ u : Value, w.cell? (ad.add j) = some u ∧ RepC w M u c
  | .own i => I i ∧ v = H i
  | .mp i => I i ∧ v = H i
  | .clo f caps => (∀ i ∈ caps, I i) ∧ ∃ vs : List Value, v = .func (.func f) #[] vs.toArray ∧ vs.length = caps.length ∧
      ∀ (j i : Nat), caps[j]? = some i → vs[j]? = some (H i)
  | .any => True

theorem RepSC.mono {I I' : Nat → Prop} {H H' : Nat → Value} {Z Z' : Nat → Nat} {w w' : World} {M M' : Nat → Prop} {v : Value} {x : SC} (h : RepSC I H Z w M v x)
    (hI : ∀ i ∈ x.uses, I i → I' i ∧ H' i = H i ∧ Z' i = Z i)
    (hs : w.heap.size ≤ w'.heap.size) (hb : ∀ b, b < w.heap.size → ¬ M b → w'.heap[b]? = w.heap[b]?)
    (hM : ∀ b, b < w.heap.size → M' b → M b) : RepSC I' H' Z' w' M' v x := by
  cases x with
  | c x => exact RepC.mono h hs hb hM
  | lit b => exact h
  | ptr i off =>
    obtain ⟨h1, b, h2, h3⟩ := h
    obtain ⟨k1, k2, _⟩ := hI i (by simp [SC.uses]) h1
    exact ⟨k1, b, by rw [k2]; exact h2, h3⟩
  | aptr i k off =>
    obtain ⟨h1, b, h2, h3⟩ := h
    obtain ⟨k1, k2, k3⟩ := hI i (by simp [SC.uses]) h1
    exact ⟨k1, b, by rw [k2]; exact h2, by rw [k3]; exact h3⟩
  | eptr cs =>
    obtain ⟨ad, h1, h2, h3, h4, h5⟩ := h
    refine ⟨ad, h1, h2, Nat.lt_of_lt_of_le h3 hs, fun hm => h4 (hM _ h3 hm), fun j c hc => ?_⟩
    obtain ⟨u, hu, hr⟩ := h5 j c hc
    refine ⟨u, ?_, hr.mono hs hb hM⟩
    rw [World.cell?_of_block (w := w) (by rw [add_block]; exact hb _ h3 h4)]
    exact hu
  | own i =>
    obtain ⟨h1, h2⟩ := h
    obtain ⟨k1, k2, _⟩ := hI i (by simp [SC.uses]) h1
    exact ⟨k1, by rw [k2]; exact h2⟩
  | mp i =>
    obtain ⟨h1, h2⟩ := h
    obtain ⟨k1, k2, _⟩ := hI i (by simp [SC.uses]) h1
    exact ⟨k1, by rw [k2]; exact h2⟩
  | clo f caps =>
    obtain ⟨h1, vs, h2, h3, h4⟩ := h
    refine ⟨fun i hi => (hI i hi (h1 i hi)).1, vs, h2, h3, fun j i hj => ?_⟩
    have hm : i ∈ caps := List.mem_of_getElem? hj
    rw [(hI i hm (h1 i hm)).2.1]
    exact h4 j i hj
  | any => trivial

def SV.uses : SV → List Nat
  | .one x => x.uses
  | .agg xs => xs.flatMap SC.uses
def ST.uses : ST → List Nat
  | .v x => x.uses
  | .tup xs => xs.flatMap SV.uses
def MO.uses : MO → List Nat
  | .box cs => cs.flatMap SC.uses
  | _ => []

def RepSV (I : Nat → Prop) (H : Nat → Value) (Z : Nat → Nat) (w : World) (M : Nat → Prop) (v : Value) : SV → Prop
  | .one x => RepSC I H Z w M v x
  | .agg xs => ∃ vs : Array Value, v = .agg vs ∧ vs.size = xs.length ∧ ∀ (j : Nat) (c : SC), xs[j]? = some c → ∃ u : Value, vs[j]? = some u ∧ RepSC I H Z w M u c

def RepST (I : Nat → Prop) (H : Nat → Value) (Z : Nat → Nat) (w : World) (M : Nat → Prop) (v : Value) : ST → Prop
  | .v x => RepSV I H Z w M v x
  | .tup xs => ∃ vs : Array Value, v = .tuple vs ∧ vs.size = xs.length ∧ ∀ (j : Nat) (c : SV), xs[j]? = some c → ∃ u : Value, vs[j]? = some u ∧ RepSV I H Z w M u c

section
variable {I I' : Nat → Prop} {H H' : Nat → Value} {Z Z' : Nat → Nat} {w w' : World} {M M' : Nat → Prop} {v : Value}
theorem RepSV.mono {x : SV} (h : RepSV I H Z w M v x)
    (hI : ∀ i ∈ x.uses, I i → I' i ∧ H' i = H i ∧ Z' i = Z i)
    (hs : w.heap.size ≤ w'.heap.size) (hb : ∀ b, b < w.heap.size → ¬ M b → w'.heap[b]? = w.heap[b]?)
    (hM : ∀ b, b < w.heap.size → M' b → M b) : RepSV I' H' Z' w' M' v x := by
  cases x with
  | one x => exact RepSC.mono h hI hs hb hM
  | agg xs =>
    obtain ⟨vs, h1, h2, h3⟩ := h
    refine ⟨vs, h1, h2, fun j c hc => ?_⟩
    obtain ⟨u, hu, hr⟩ := h3 j c hc
    exact ⟨u, hu, hr.mono (fun i hi => hI i (by simp only [SV.uses, List.mem_flatMap]; exact ⟨c, List.mem_of_getElem? hc, hi⟩)) hs hb hM⟩
theorem RepST.mono {x : ST} (h : RepST I H Z w M v x)
    (hI : ∀ i ∈ x.uses, I i → I' i ∧ H' i = H i ∧ Z' i = Z i)
    (hs : w.heap.size ≤ w'.heap.size) (hb : ∀ b, b < w.heap.size → ¬ M b → w'.heap[b]? = w.heap[b]?)
    (hM : ∀ b, b < w.heap.size → M' b → M b) : RepST I' H' Z' w' M' v x := by
  cases x with
  | v x => exact RepSV.mono h hI hs hb hM
  | tup xs =>
    obtain ⟨vs, h1, h2, h3⟩ := h
    refine ⟨vs, h1, h2, fun j c hc => ?_⟩
    obtain ⟨u, hu, hr⟩ := h3 j c hc
    exact ⟨u, hu, hr.mono (fun i hi => hI i (by simp only [ST.uses, List.mem_flatMap]; exact ⟨c, List.mem_of_getElem? hc, hi⟩)) hs hb hM⟩
end

def MemOK (I : Nat → Prop) (H : Nat → Value) (Z : Nat → Nat) (w : World) (M : Nat → Prop) (i : Nat) : MO → Prop
  | .box cs => ∃ b ty vs, H i = .pointer (some ⟨b, 0, none⟩) ∧ w.heap[b]? = some (.cells vs ty (0, 0)) ∧ vs.size = cs.length ∧
      ∀ (j : Nat) (c : SC), cs[j]? = some c → ∃ u : Value, vs[j]? = some u ∧ u.oneCell' = true ∧ RepSC I H Z w M u c
  | .arr nn e sz xs => Z i = sz ∧ ∃ us, w.ownsRow 0 e sz (H i) xs.length us ∧ (nn = true → H i ≠ .slice none 0 0) ∧ (∀ x ∈ xs, x.length = sz) ∧
      ∀ (k : Nat) (x : List CT), xs[k]? = some x → ∀ (j : Nat) (c : CT), x[j]? = some c → ∃ u : Value, us[k * sz + j]? = some u ∧ RepC w M u c
  | .mpo ents => ∃ r es ck, H i = .map (some r) ∧ w.heap[r]? = some (.map es ck) ∧ es.size = ents.length ∧
      ∀ (j : Nat) (p : FV × FV), ents[j]? = some p → ∃ en : MapEntry, es[j]? = some en ∧ RepF w M en.key p.1 ∧ RepF w M en.val p.2

theorem hblk_ownBlock {w : World} {e sz : Nat} {v : Value} {n : Nat} {us : List Value} (h : w.ownsRow 0 e sz v n us) : hblk v = v.ownBlock := by
  rcases h.2 with ⟨rfl, _⟩ | ⟨g, cap, cur, rfl, _⟩ <;> rfl

/-- An object that is not written stays what it is. -/
theorem MemOK.mono {I I' : Nat → Prop} {H H' : Nat → Value} {Z Z' : Nat → Nat} {w w' : World} {M M' : Nat → Prop} {i : Nat} {o : MO} (h : MemOK I H Z w M i o)
    (hi : H' i = H i ∧ Z' i = Z i) (hsame : ∀ b, hblk (H i) = some b → w'.heap[b]? = w.heap[b]?)
    (hI : ∀ j ∈ o.uses, I j → I' j ∧ H' j = H j ∧ Z' j = Z j)
    (hs : w.heap.size ≤ w'.heap.size) (hb : ∀ b, b < w.heap.size → ¬ M b → w'.heap[b]? = w.heap[b]?)
    (hM : ∀ b, b < w.heap.size → M' b → M b) : MemOK I' H' Z' w' M' i o := by
  cases o with
  | box cs =>
    obtain ⟨b, ty, vs, h1, h2, h3, h4⟩ := h
    refine ⟨b, ty, vs, by rw [hi.1]; exact h1, (hsame b (by rw [h1]; rfl)).trans h2, h3, fun j c hc => ?_⟩
    obtain ⟨u, hu, ho, hr⟩ := h4 j c hc
    exact ⟨u, hu, ho, hr.mono (fun k hk => hI k (by simp only [MO.uses, List.mem_flatMap]; exact ⟨c, List.mem_of_getElem? hc, hk⟩)) hs hb hM⟩
  | arr nn e sz xs =>
    obtain ⟨hz, us, h1, h2, h3, h4⟩ := h
    refine ⟨hi.2.trans hz, us, ?_, by rw [hi.1]; exact h2, h3, fun k x hx j c hc => let ⟨u, hu, hr⟩ := h4 k x hx j c hc; ⟨u, hu, hr.mono hs hb hM⟩⟩
    rw [hi.1]
    refine ⟨h1.1, ?_⟩
    rcases h1.2 with hh | ⟨g, cap, cur, hv, hg, hh, rest⟩
    · exact .inl hh
    · exact .inr ⟨g, cap, cur, hv, hg, (hsame g (by rw [hv]; rfl)).trans hh, rest⟩
  | mpo ents =>
    obtain ⟨r, es, ck, h1, h2, h3, h4⟩ := h
    refine ⟨r, es, ck, by rw [hi.1]; exact h1, (hsame r (by rw [h1]; rfl)).trans h2, h3, fun j p hp => ?_⟩
    obtain ⟨en, he, hk, hv⟩ := h4 j p hp
    exact ⟨en, he, hk.mono hs hb hM, hv.mono hs hb hM⟩

/-- The frame of a call: the program, the world as it began, what lies outside and may not be written or read as frozen (M0), what was handed in to be written (W). -/
structure Ctx where
  P : Program
  w0 : World
  M0 : Nat → Prop
  W : Nat → Prop
  H0 : Nat → Value

def Mof (C : Ctx) (H : Nat → Value) (mm : MM) (b : Nat) : Prop := C.M0 b ∨ ∃ p ∈ mm, hblk (H p.1) = some b
def Iof (mm : MM) (i : Nat) : Prop := ∃ p ∈ mm, p.1 = i

/-- Objects handed in have ids from 'given' on; all others were made by the call. -/
def given : Nat := 100000

structure Mod (C : Ctx) (H : Nat → Value) (Z : Nat → Nat) (n : Nat) (tm : TM) (mm : MM) (a : Act) (w : World) : Prop where
  defers : a.defers = []
  size : a.tmps.size = n
  nle : n ≤ given
  hg : ∀ p ∈ mm, given ≤ p.1 → H p.1 = C.H0 p.1
  ext : Ext C.W C.w0 w
  m0 : ∀ b, C.M0 b → b < C.w0.heap.size
  ids : ∀ p ∈ mm, ∀ q ∈ mm, p.1 = q.1 → p = q
  mem : ∀ p ∈ mm, MemOK (Iof mm) H Z w (Mof C H mm) p.1 p.2
  fresh : ∀ p ∈ mm, ∀ b, hblk (H p.1) = some b → ((p.1 < given ∧ C.w0.heap.size ≤ b) ∨ (given ≤ p.1 ∧ (C.W b ∨ C.w0.heap.size ≤ b))) ∧ b < w.heap.size
  sep : ∀ p ∈ mm, ∀ q ∈ mm, p.1 ≠ q.1 → ∀ b, hblk (H p.1) = some b → hblk (H q.1) ≠ some b
  tmps : ∀ p ∈ tm, RepST (Iof mm) H Z w (Mof C H mm) (a.tmps.getD p.1 undef) p.2

end Go.Sy
