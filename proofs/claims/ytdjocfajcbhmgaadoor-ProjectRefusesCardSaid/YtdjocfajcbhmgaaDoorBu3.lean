/- Contracts of the reference, bundle Bu3. -/
import Derived.Shelf.SlSortCmp.NoneTotal
import Derived.WalkKit
import Derived.Test.YtdjocfajcbhmgaaDoorLayq
import Derived.Test.YtdjocfajcbhmgaaDoorBl1
import Derived.Test.YtdjocfajcbhmgaaDoorSy8
import Derived.Test.YtdjocfajcbhmgaaDoorBn1
import Derived.Test.YtdjocfajcbhmgaaDoorBu2
namespace Go.Proofs
set_option linter.unusedSimpArgs false
set_option linter.unusedVariables false
open Go.Shelf Go.RowKit Go.Lib Go.Sort Go.Sy
def cmpS (x y : ByteArray) : Int := if sLt x y then -1 else if sLt y x then 1 else 0
theorem isNaNS (x : ByteArray) (w : World) : Calls Tryd.prog 70 #[.string x] w fun e w' => e = .returned (.bool false) ∧ w' = w := by
  go_enter Tryd.func70, Tryd.ntmps70
  go_wp2
  go_ret
  exact ⟨rfl, rfl⟩
set_option maxHeartbeats 1000000 in
theorem compareS (x y : ByteArray) (w : World) : Calls Tryd.prog 63 #[.string x, .string y] w fun e w' => e = .returned (.int .i64 (cmpS x y)) ∧ w' = w := by
  have hn := isNaNS
  cases h1 : Op.bytesLess x.toList y.toList with
  | true =>
    have hc : cmpS x y = -1 := by unfold cmpS sLt; rw [if_pos h1]
    rw [hc]; clear hc
    go_enter Tryd.func63, Tryd.ntmps63
    go_wp2_with (go_at_call 70; refine (hn _ _).mono ?_; rintro e w' ⟨rfl, rfl⟩)
    all_goals go_ret
    all_goals exact ⟨rfl, rfl⟩
  | false =>
    cases h2 : Op.bytesLess y.toList x.toList with
    | true =>
      have hc : cmpS x y = 1 := by unfold cmpS sLt; rw [if_neg (by rw [h1]; decide), if_pos h2]
      have h3 : ¬ x = y := fun e => by subst e; rw [h1] at h2; cases h2
      have h4 : ¬ x.toList = y.toList := fun e => h3 (ba_toList_inj e)
      have h5 : (x.toList == y.toList) = false := by simpa using h4
      have hb : ∀ w, (binOp BinOp.gtr 9 (.string x) (.string y)).run Tryd.prog w = .ok (.bool true) w := fun w => by simp [binOp, Op.stringOp, eqGuard, h1, h5]
      rw [hc]; clear hc
      go_enter Tryd.func63, Tryd.ntmps63
      go_wp2_with (go_at_call 70; refine (hn _ _).mono ?_; rintro e w' ⟨rfl, rfl⟩)
      all_goals first
        | (go_ret; exact ⟨rfl, rfl⟩)
        | trace_state
    | false =>
      have hc : cmpS x y = 0 := by unfold cmpS sLt; rw [if_neg (by rw [h1]; decide), if_neg (by rw [h2]; decide)]
      obtain rfl : x = y := sLt_tri h1 h2
      have hb : ∀ w, (binOp BinOp.gtr 9 (.string x) (.string x)).run Tryd.prog w = .ok (.bool false) w := fun w => by simp [binOp, Op.stringOp, eqGuard, h1]
      rw [hc]; clear hc
      go_enter Tryd.func63, Tryd.ntmps63
      go_wp2_with (go_at_call 70; refine (hn _ _).mono ?_; rintro e w' ⟨rfl, rfl⟩)
      all_goals first
        | (go_ret; exact ⟨rfl, rfl⟩)
        | trace_state
instance : Inhabited Arm := ⟨⟨⟨#[]⟩, 0, ⟨#[]⟩, 0⟩⟩
def encA (a : Arm) : List Value := [.string a.label, .int .i64 a.kind, .string a.name, .int .i64 a.next]
abbrev cmpA (x y : Arm) : Int := cmpS x.label y.label
theorem ltA (x y : Arm) : ltOf cmpA x y = sLt x.label y.label := by
  unfold ltOf cmpA cmpS
  cases h1 : sLt x.label y.label
  · cases h2 : sLt y.label x.label <;> simp [h1, h2]
  · simp
theorem swoA : SWO (ltOf cmpA) where
  irrefl x := by rw [ltA]; exact sLt_irr _
  trans x y z h1 h2 := by rw [ltA] at *; exact sLt_trans h1 h2
  ntrans x y z h1 h2 := by
    rw [ltA] at *
    cases h3 : sLt x.label z.label with
    | false => rfl
    | true =>
      exfalso
      cases h4 : sLt y.label x.label with
      | true =>
        have := sLt_trans h4 h3
        rw [this] at h2; cases h2
      | false =>
        have := sLt_tri h1 h4
        rw [this, h2] at h3; cases h3
set_option maxHeartbeats 1000000 in
theorem rising1 (x y : Arm) (W : World) : Calls Tryd.prog 62 #[.agg (encA x).toArray, .agg (encA y).toArray] W fun e w' => e = .returned (.int .i64 (cmpA x y)) ∧ ∃ q os', w' = grow (W.drewN q) os' := by
  have hcon := fun W' => compareS x.label y.label W'
  unfold cmpA
  generalize cmpS x.label y.label = r at hcon ⊢
  unfold encA
  go_enter Tryd.func62, Tryd.ntmps62
  go_wp2_with (go_at_call 63; refine (hcon _).mono ?_; rintro e w' ⟨rfl, rfl⟩)
  go_ret
  exact ⟨rfl, 0, _, by rw [alloc_eq_grow, alloc_eq_grow, grow_grow]; rfl⟩
theorem cmpLaysA (blk off size : Nat) (w : World) : CmpLays Tryd.prog 62 #[] encA 4 cmpA blk off size w :=
  fun _ _ _ _ x y => rising1 x y _
end Go.Proofs
set_option linter.unusedSimpArgs false
set_option linter.unusedVariables false
set_option linter.unusedSectionVars false
namespace Go.Sy
open Go.Proofs Go.Shelf Go.RowKit Go.Sort
theorem owns_holds {w : World} {e sz g n cap : Nat} {us : List Value} (h : w.ownsRow 0 e sz (.slice (some ⟨g, 0, none⟩) n cap) n us) : g < w.heap.size ∧ Holds id w g 0 us.toArray := by
  rcases h.2 with ⟨e0, _⟩ | ⟨g', cap', cur, e0, hb, hg, hn, hm, hs, ht⟩
  · cases e0
  · cases e0
    have hlt : g < w.heap.size := by
      rcases Nat.lt_or_ge g w.heap.size with h' | h'
      · exact h'
      · rw [Array.getElem?_eq_none h'] at hg; cases hg
    refine ⟨hlt, fun j hj => ⟨?_, by simp [World.frozen?, hg]⟩⟩
    have hj' : j < us.length := by simpa using hj
    have hjn : j < n * sz := by rw [← h.1]; exact hj'
    have e1 : (cur.toList.take (n * sz))[j]? = us[j]? := by rw [ht]
    rw [List.getElem?_take, if_pos hjn, Array.getElem?_toList, List.getElem?_eq_getElem hj'] at e1
    simp only [World.cell?, hg, Nat.zero_add, Option.isSome_none, Bool.false_eq_true, if_false]
    rw [e1]
    simp [getElem!_pos, hj']
theorem put_heap {w : World} {g q : Nat} {F : Array Value} {os : Array Obj} {cur : Array Value} {e : TypeId} (hg : w.heap[g]? = some (.cells cur e (0, 0))) :
    (grow (putRow id (Sort.ahead w q) g 0 F) os).heap[g]? = some (.cells (putCells id 0 F cur) e (0, 0)) := by
  have hlt : g < w.heap.size := by
    rcases Nat.lt_or_ge g w.heap.size with h' | h'
    · exact h'
    · rw [Array.getElem?_eq_none h'] at hg; cases hg
  rw [heap_grow_old _ _ (by simpa [putRow, mapBlock, Sort.ahead] using hlt)]
  simp [putRow, mapBlock, Sort.ahead, Array.getElem?_modify, hg, onCells]
theorem owns_put {w : World} {e sz g n cap : Nat} {us : List Value} (h : w.ownsRow 0 e sz (.slice (some ⟨g, 0, none⟩) n cap) n us) {F : Array Value} (hF : F.size = us.length) (q : Nat) (os : Array Obj) :
    (grow (putRow id (Sort.ahead w q) g 0 F) os).ownsRow 0 e sz (.slice (some ⟨g, 0, none⟩) n cap) n F.toList := by
  rcases h.2 with ⟨e0, _⟩ | ⟨g', cap', cur, e0, hb, hg, hn, hm, hs, ht⟩
  · cases e0
  · cases e0
    have hul : us.length = n * sz := h.1
    have hnc : n * sz ≤ cur.size := by rw [hs]; exact Nat.mul_le_mul_right sz hn
    refine ⟨by rw [Array.length_toList, hF, hul], .inr ⟨g, cap, _, rfl, hb, put_heap hg, hn, hm, by simpa [putCells] using hs, ?_⟩⟩
    apply List.ext_getElem?
    intro j
    rw [List.getElem?_take]
    by_cases hj : j < n * sz
    · have hjc : j < cur.size := by omega
      have hjF : j < F.size := by omega
      rw [if_pos hj, Array.getElem?_toList, Array.getElem?_toList]
      simp [putCells, hjc, hjF, getElem!_pos]
    · rw [if_neg hj, Array.getElem?_toList, Array.getElem?_eq_none (by omega)]
theorem put_ext {w : World} {g q : Nat} {F : Array Value} {os : Array Obj} : Ext (fun b => b = g) w (grow (putRow id (Sort.ahead w q) g 0 F) os) := by
  refine ⟨rfl, rfl, rfl, by simp [putRow, mapBlock, Sort.ahead], fun k hk hne => ?_⟩
  rw [heap_grow_old _ _ (by simpa [putRow, mapBlock, Sort.ahead] using hk)]
  simp only [putRow, mapBlock, Sort.ahead, Array.getElem?_modify, if_neg (fun e : g = k => hne e.symm)]
theorem conM_row {P : Program} {f : FuncId} {e sz : Nat} {v : Value} {xs ys : List (List CT)} {more : List SV} {ev : List Value} (hok : CallOK P f)
    (hy : ∀ x ∈ ys, x.length = sz) (hl : ys.length = xs.length)
    (hev : ∀ (I : Nat → Prop) (H : Nat → Value) (Z : Nat → Nat) (w : World) (M : Nat → Prop) (vs : List Value), Pw (fun v s => RepSV I H Z w M v s) vs more → vs = ev)
    (hnil : v = .slice none 0 0 → ∀ w, Calls P f (v :: ev).toArray w fun e w' => e = .returned (.tuple #[]) ∧ w' = w)
    (hrow : ∀ (w : World) (g cap : Nat) (us : List Value), v = .slice (some ⟨g, 0, none⟩) xs.length cap → w.ownsRow 0 e sz v xs.length us →
      (∃ M : Nat → Prop, ∀ (i : Nat) (x : List CT), xs[i]? = some x → ∀ (j : Nat) (c : CT), x[j]? = some c → ∃ u : Value, us[i * sz + j]? = some u ∧ RepC w M u c) →
      Calls P f (v :: ev).toArray w fun e w' => e = .returned (.tuple #[]) ∧ ∃ (F : Array Value) (q : Nat) (os : Array Obj), F.size = us.length ∧ w' = grow (putRow id (Sort.ahead w q) g 0 F) os ∧
        ∀ (i : Nat) (x : List CT), ys[i]? = some x → ∀ (j : Nat) (c : CT), x[j]? = some c → ∃ u : Value, F[i * sz + j]? = some u ∧ ∀ w M, RepC w M u c) :
    ConM P f [(1, .pool e sz [(v, xs)])] (.one (.c (.val v)) :: more) (fun _ : Unit => True) (fun _ => .tup []) (fun _ => [(1, .pool e sz [(v, ys)])]) := by
  refine ⟨hok, fun w M0 H Z vs hpre hargs => ?_⟩
  obtain ⟨v0, vs, rfl⟩ : ∃ v0 vs', vs = v0 :: vs' := by
    cases vs with
    | nil => have := hargs.1; simp at this
    | cons a l => exact ⟨a, l, rfl⟩
  obtain ⟨u0, hu0, hr0⟩ := hargs.2 0 _ rfl
  simp only [List.getElem?_cons_zero, Option.some.injEq] at hu0
  subst hu0
  have hv0 : v0 = v := RepC.val_inv hr0
  subst hv0
  have hvs : vs = ev := hev _ _ _ _ _ _ ⟨by have := hargs.1; simpa using this, fun j c hc => by
    obtain ⟨u, hu, hr⟩ := hargs.2 (j + 1) c (by simpa using hc)
    exact ⟨u, by simpa using hu, hr⟩⟩
  subst hvs
  obtain ⟨hH, hpool⟩ := hpre.mem (1, .pool e sz [(v0, xs)]) List.mem_cons_self
  simp only at hH hpool
  obtain ⟨us, hown, hlen, hrep⟩ := hpool.row (k := 0) rfl
  have hb0 : ∀ b, Hb (H 1) b ↔ hblk v0 = some b := fun b => by
    rw [hH]
    show Hb (poolV [(v0, xs)]) b ↔ _
    rw [poolV_Hb]; simp
  have hbl : ∀ b, blksOf H [(1, MO.pool e sz [(v0, xs)])] b ↔ hblk v0 = some b := fun b => by
    constructor
    · rintro ⟨p, hp, hpb⟩
      rw [List.mem_singleton.1 hp] at hpb
      exact (hb0 b).1 hpb
    · exact fun h => ⟨_, List.mem_cons_self, (hb0 b).2 h⟩
  have fin : ∀ w', Ext (fun b => hblk v0 = some b) w w' → RowOK w' (fun b => M0 b ∨ hblk v0 = some b) e sz v0 ys → EndM H Z [(1, .pool e sz [(v0, xs)])] (fun _ : Unit => True) (fun _ => .tup []) (fun _ => [(1, .pool e sz [(v0, ys)])]) w M0 (.returned (.tuple #[])) w' := by
    intro w' hext hrow'
    refine ⟨(), .tuple #[], H, trivial, rfl, hext.weak fun b _ hb => (hbl b).2 hb, ⟨fun _ _ _ => rfl, fun p hp => ?_, fun p hp b hb => ?_, fun p hp q hq hpq => ?_⟩, ⟨#[], rfl, rfl, fun j c hc => by simp at hc⟩⟩
    · rw [List.mem_singleton.1 hp]
      refine ⟨hH, fun k q hk => ?_, fun k l q r hk hl' hkl => ?_⟩
      · match k, hk with
        | 0, hk =>
          simp only [List.getElem?_cons_zero, Option.some.injEq] at hk; subst hk
          refine RowOK.mono (v := v0) (xs := ys) hrow' (fun _ _ => rfl) (Nat.le_refl _) (fun _ _ _ => rfl) fun b _ hb => ?_
          rcases hb with hb | ⟨p, hp, hpb⟩
          · exact .inl hb
          · rw [List.mem_singleton.1 hp] at hpb
            exact .inr ((hb0 b).1 hpb)
        | k + 1, hk => simp at hk
      · match k, l, hk, hl' with
        | 0, 0, _, _ => exact absurd rfl hkl
        | 0, l + 1, _, hl' => simp at hl'
        | k + 1, _, hk, _ => simp at hk
    · rw [List.mem_singleton.1 hp] at hb ⊢
      have hlt := hpre.lt _ List.mem_cons_self b hb
      exact ⟨Nat.lt_of_lt_of_le hlt hext.size, .inr ⟨_, List.mem_cons_self, hb, .inl rfl⟩⟩
    · rw [List.mem_singleton.1 hp, List.mem_singleton.1 hq] at hpq; exact absurd rfl hpq
  rcases hown.2 with ⟨hv, hn⟩ | ⟨g, cap, cur, hv, _⟩
  · have hx : xs = [] := List.eq_nil_of_length_eq_zero hn
    have hy0 : ys = [] := List.eq_nil_of_length_eq_zero (by rw [hl, hx]; rfl)
    refine (hnil hv w).mono ?_
    rintro e' w' ⟨rfl, hw⟩
    rw [hw]
    refine fin w (Ext.refl _ _) ?_
    rw [hy0, hv]
    exact RowOK.nil _ _ _ _
  · refine (hrow w g cap us hv hown ⟨_, hrep⟩).mono ?_
    rintro e' w' ⟨rfl, F, q, os, hF, rfl, hFr⟩
    rw [hv] at hown
    have ho := owns_put hown hF q os
    refine fin _ (put_ext.weak fun b _ hb => by rw [hv, hb]; rfl) ⟨F.toList, by rw [hv, hl]; exact ho, hy, fun i x hx j c hc => ?_⟩
    obtain ⟨u, hu, hr⟩ := hFr i x hx j c hc
    exact ⟨u, by rw [Array.getElem?_toList]; exact hu, hr _ _⟩
theorem encA_rep {a : Arm} {j : Nat} {c : CT} (h : (Arm.cs a)[j]? = some c) : ∃ u, (encA a)[j]? = some u ∧ ∀ w M, RepC w M u c := by
  match j, h with
  | 0, h => simp at h; subst h; exact ⟨_, rfl, fun _ _ => RepC.str _⟩
  | 1, h => simp at h; subst h; exact ⟨_, rfl, fun _ _ => RepC.int _ _⟩
  | 2, h => simp at h; subst h; exact ⟨_, rfl, fun _ _ => RepC.str _⟩
  | 3, h => simp at h; subst h; exact ⟨_, rfl, fun _ _ => RepC.int _ _⟩
  | j + 4, h => simp at h
theorem encA_inv {a : Arm} {w : World} {M : Nat → Prop} {j : Nat} {u : Value} {c : CT} (h : (Arm.cs a)[j]? = some c) (hr : RepC w M u c) : (encA a)[j]? = some u := by
  match j, h with
  | 0, h => simp at h; subst h; rw [RepC.str_inv hr]; rfl
  | 1, h => simp at h; subst h; rw [RepC.int_inv hr]; rfl
  | 2, h => simp at h; subst h; rw [RepC.str_inv hr]; rfl
  | 3, h => simp at h; subst h; rw [RepC.int_inv hr]; rfl
  | j + 4, h => simp at h
theorem flatA_get {l : List Arm} {i j : Nat} {a : Arm} (hi : l[i]? = some a) (hj : j < 4) : (flatK encA 4 l.toArray)[i * 4 + j]? = (encA a)[j]? := by
  obtain ⟨hil, hia⟩ := List.getElem?_eq_some_iff.1 hi
  have ht : i * 4 + j < l.toArray.size * 4 := by simp; omega
  have h1 := get_flatK encA 4 l.toArray (i * 4 + j) ht
  have hs : i * 4 + j < (flatK encA 4 l.toArray).size := by rw [size_flatK]; exact ht
  rw [getElem!_pos (flatK encA 4 l.toArray) (i * 4 + j) hs] at h1
  rw [Array.getElem?_eq_getElem hs, h1, show (i * 4 + j) / 4 = i by omega, show (i * 4 + j) % 4 = j by omega]
  have h2 : l.toArray[i]! = a := by rw [getElem!_pos l.toArray i (by simpa using hil)]; simpa using hia
  rw [h2]
  have h3 : j < (encA a).length := by simpa [encA] using hj
  rw [getElem!_pos (encA a) j h3, List.getElem?_eq_getElem h3]
theorem flatA_of {l : List Arm} {w : World} {M : Nat → Prop} {us : List Value} (hl : us.length = l.length * 4)
    (h : ∀ (i : Nat) (x : List CT), (l.map Arm.cs)[i]? = some x → ∀ (j : Nat) (c : CT), x[j]? = some c → ∃ u : Value, us[i * 4 + j]? = some u ∧ RepC w M u c) : us = (flatK encA 4 l.toArray).toList := by
  apply List.ext_getElem?
  intro t
  by_cases ht : t < l.length * 4
  · have hi : t / 4 < l.length := by omega
    have hx : (l.map Arm.cs)[t / 4]? = some (l[t / 4]).cs := by simp [hi]
    have hc : ∃ c, (l[t / 4]).cs[t % 4]? = some c := by
      have : t % 4 < 4 := by omega
      exact ⟨_, List.getElem?_eq_getElem (by simpa using this)⟩
    obtain ⟨c, hc⟩ := hc
    obtain ⟨u, hu, hr⟩ := h _ _ hx _ _ hc
    have h1 := encA_inv hc hr
    have h2 := flatA_get (l := l) (List.getElem?_eq_getElem hi) (show t % 4 < 4 by omega)
    rw [show t / 4 * 4 + t % 4 = t by omega] at hu h2
    rw [hu, Array.getElem?_toList, h2, h1]
  · rw [List.getElem?_eq_none (by omega), List.getElem?_eq_none (by rw [Array.length_toList, size_flatK]; simpa using (by omega : l.length * 4 ≤ t))]
theorem sorted_risA {l : List Arm} {d' : Array Arm} (hd : (l.map Arm.label).Nodup) (hp : PermIn 0 l.toArray.size l.toArray d') (hs : SortedIn (ltOf cmpA) 0 l.toArray.size d') : d'.toList = risA l := by
  have hsz : d'.size = l.length := by simpa using hp.1
  have hperm : d'.toList.Perm l := by
    have h1 := hp.2.2
    have h2 : d'.extract 0 l.toArray.size = d' := by
      have : l.toArray.size = d'.size := by rw [hsz]; simp
      rw [this]; exact Array.extract_size
    rw [h2, show l.toArray.extract 0 l.toArray.size = l.toArray from Array.extract_size] at h1
    simpa using h1
  have hris : RisW d'.toList := by
    unfold RisW
    rw [List.pairwise_iff_getElem]
    intro i j hi hj hij
    have := hs i j (Nat.zero_le _) hij (by simpa [hsz] using hj)
    rw [ltA, getElem!_pos d' j (by simpa using hj), getElem!_pos d' i (by simpa using hi)] at this
    simpa using this
  rw [← risA_of hris]
  exact (risA_eq hperm.symm hd).symm
theorem sortF_c (v : Value) (l : List Arm) (hd : (l.map Arm.label).Nodup) (hl : l.length < 4611686018427387904) :
    ConM Tryd.prog 61 [(1, .pool 27 4 [(v, l.map Arm.cs)])] [.one (.c (.val v)), .one (.clo 62 [])]
      (fun _ : Unit => True) (fun _ => .tup []) (fun _ => [(1, .pool 27 4 [(v, (risA l).map Arm.cs)])]) := by
  refine conM_row (ev := [.func (.func 62) #[] #[]]) (callOK (c := _) Tryd.func61 rfl rfl)
    (fun x hx => by obtain ⟨a, _, rfl⟩ := List.mem_map.1 hx; rfl) (by rw [List.length_map, List.length_map, risA_len]) (fun I H Z w M vs hp => ?_) (fun hv w => ?_) (fun w g cap us hv hown hrep => ?_)
  · match vs, hp with
    | [u], hp =>
      obtain ⟨u', hu', hr⟩ := hp.2 0 _ rfl
      simp only [List.getElem?_cons_zero, Option.some.injEq] at hu'
      subst hu'
      obtain ⟨_, vs', h1, h2, _⟩ := hr
      have : vs' = [] := by simpa using h2
      subst this
      rw [h1]
    | [], hp => have := hp.1; simp at this
    | _ :: _ :: _, hp => have := hp.1; simp at this
  · subst hv
    exact AnyF.slices_SortFunc_none Tryd.laysSortF none 0 _ w
  · obtain ⟨M, hrep⟩ := hrep
    have hus : us = (flatK encA 4 l.toArray).toList := flatA_of (by have := hown.1; simpa using this) hrep
    subst hv
    obtain ⟨hblk, hH⟩ := owns_holds hown
    have hHK : HoldsK encA 4 w g 0 l.toArray := by
      unfold HoldsK
      rw [hus] at hH
      simpa using hH
    have eg : ∀ args w, (callFunc 62 args).run Tryd.prog w = .ok (.enter 62 args) w := enters_of Tryd.func62 (by kernel_rfl) rfl
    have hcon := AnyQ.slices_SortFunc Tryd.laysSortF 4 Tryd.isAgg27 Tryd.sizeOf27 encA (fun _ => rfl) (fun x v hv => by simp [encA] at hv; rcases hv with rfl | rfl | rfl | rfl <;> rfl) cmpA swoA 62 #[] g 0 cap l.toArray w eg (cmpLaysA g 0 _ w) hHK hblk (by simpa using hl)
    simp only [List.size_toArray, List.length_map] at hcon ⊢
    refine hcon.mono ?_
    rintro e' w' ⟨rfl, d', n, os, hp, hs, rfl⟩
    have hd' := sorted_risA hd (by simpa using hp) (by simpa using hs)
    have hsz : d'.size = l.length := by simpa using hp.1
    refine ⟨rfl, flatK encA 4 d', n, os, by rw [hus, Array.length_toList, size_flatK, size_flatK, hsz]; simp, rfl, fun i x hx j c hc => ?_⟩
    rw [← hd', List.getElem?_map] at hx
    cases hq : d'.toList[i]? with
    | none => rw [hq] at hx; cases hx
    | some a =>
      rw [hq] at hx; injection hx with hx; subst hx
      have hj : j < 4 := by
        have := (List.getElem?_eq_some_iff.1 hc).1
        simpa using this
      obtain ⟨u, hu, hr⟩ := encA_rep hc
      refine ⟨u, ?_, hr⟩
      have := flatA_get (l := d'.toList) hq hj
      simp only [Array.toArray_toList] at this
      rw [this, hu]
end Go.Sy
namespace Go.Sy
open Go.Proofs
set_option maxRecDepth 100000
attribute [local irreducible] SOps Goes DOps EOps FOps
theorem risingO_c (l : List Arm) (hd : (l.map Arm.label).Nodup) (hl : l.length ≤ 1000) :
    ConO Tryd.prog 48 [C1 (armsC l)] (fun _ : Value => True) (fun v => .v (C1 (.val v))) (fun v => [(27, 4, [(v, (risA l).map Arm.cs)])]) := by
  refine conO_of (c := _) Tryd.func48 rfl rfl rfl (by decide) fun w M0 H => ?_
  repeat' (first
   | refine gc_ rfl ?_
   | (refine g_region ?_; refine run_ th rfl ?_)
   | (refine g_drawC mix rfl rfl ?_; refine drun_ th rfl ?_)
   | (refine g_drawEC mix rfl rfl ?_; refine erun_ th rfl ?_)
   | refine SOps.nil ?_
   | refine DOps.nil ?_
   | refine EOps.nil ?_ rfl rfl
   | (refine s_split rfl rfl (fun hb => ?_) (fun hb => ?_) <;> (try simp only [hbL] at hb) <;> first | (exfalso; omega) | refine run_ th rfl ?_)
   | (refine d_split rfl rfl rfl (fun hb => ?_) (fun hb => ?_) <;> (try simp only [hbL] at hb) <;> first | (exfalso; omega) | refine drun_ th rfl ?_)
   | (refine g_if rfl (fun hb => ?_) (fun hb => ?_) <;> (try simp only [hbL] at hb) <;> (try (exfalso; omega)))
   | (refine s_assignAny rfl rfl rfl rfl ?_; refine run_ th rfl ?_)
   | (refine s_callO (cloneArmO_c l (by omega)) [91] rfl rfl rfl rfl rfl rfl rfl rfl rfl (fun _ => rfl) (fun vA _ => ?_); refine run_ th rfl ?_)
   | (refine s_callM (sortF_c vA l hd (by omega)) [(1, 91)] rfl rfl rfl rfl ⟨rfl, trivial⟩ ⟨rfl, rfl, rfl, rfl, rfl⟩ (fun _ => ⟨rfl, rfl, rfl, rfl, rfl, rfl, rfl⟩) (fun _ => rfl) (fun _ => rfl) rfl rfl rfl (fun _ _ => ?_); refine run_ th rfl ?_))
  exact g_endO th Tryd.func48 [91] vA (.inr ⟨_, rfl⟩) rfl rfl rfl rfl rfl rfl trivial
theorem rising_c (l : List Arm) (hd : (l.map Arm.label).Nodup) (hl : l.length ≤ 1000) : Con Tryd.prog 48 [] [C1 (armsC l)] (Rv (armsC (risA l))) [] := by
  refine con_of (c := _) Tryd.func48 rfl rfl rfl (by decide) fun w M0 H Z => ?_
  repeat' (first
   | refine gc_ rfl ?_
   | (refine g_region ?_; refine run_ th rfl ?_)
   | (refine g_drawC mix rfl rfl ?_; refine drun_ th rfl ?_)
   | (refine g_drawEC mix rfl rfl ?_; refine erun_ th rfl ?_)
   | refine SOps.nil ?_
   | refine DOps.nil ?_
   | refine EOps.nil ?_ rfl rfl
   | (refine s_split rfl rfl (fun hb => ?_) (fun hb => ?_) <;> (try simp only [hbL] at hb) <;> first | (exfalso; omega) | refine run_ th rfl ?_)
   | (refine d_split rfl rfl rfl (fun hb => ?_) (fun hb => ?_) <;> (try simp only [hbL] at hb) <;> first | (exfalso; omega) | refine drun_ th rfl ?_)
   | (refine g_if rfl (fun hb => ?_) (fun hb => ?_) <;> (try simp only [hbL] at hb) <;> (try (exfalso; omega)))
   | (refine s_assignAny rfl rfl rfl rfl ?_; refine run_ th rfl ?_)
   | (refine s_callO (cloneArmO_c l (by omega)) [91] rfl rfl rfl rfl rfl rfl rfl rfl rfl (fun _ => rfl) (fun vA _ => ?_); refine run_ th rfl ?_)
   | (refine s_callM (sortF_c vA l hd (by omega)) [(1, 91)] rfl rfl rfl rfl ⟨rfl, trivial⟩ ⟨rfl, rfl, rfl, rfl, rfl⟩ (fun _ => ⟨rfl, rfl, rfl, rfl, rfl, rfl, rfl⟩) (fun _ => rfl) (fun _ => rfl) rfl rfl rfl (fun _ _ => ?_); refine run_ th rfl ?_))
  refine g_freezeT 91 2 rfl rfl rfl rfl rfl ?_
  refine g_endL th Tryd.func48 (.inr ⟨_, rfl⟩) rfl rfl rfl ?_ rfl
  exact .refl _
end Go.Sy
namespace Go.Sy
open Go.Proofs
set_option maxRecDepth 100000
attribute [local irreducible] SOps Goes DOps EOps
def reachL (l : Loc) : List Int := if locB l then reachG l.g else []
theorem bfsIn_add : ∀ (a b : List Arm) (out : List Int), bfsIn out (a ++ b) = bfsIn (bfsIn out a) b
  | [], _, _ => rfl
  | x :: a, b, out => by rw [List.cons_append, bfsIn, bfsIn, bfsIn_add a b]
theorem bfsIn_succ {rs : List Arm} {j : Nat} (hj : j < rs.length) (out : List Int) :
    bfsIn out (rs.take (j + 1)) = if memB (bfsIn out (rs.take j)) rs[j].next then bfsIn out (rs.take j) else bfsIn out (rs.take j) ++ [rs[j].next] := by
  rw [List.take_succ_eq_append_getElem hj, bfsIn_add, bfsIn, bfsIn]
  unfold memB
  by_cases h : rs[j].next ∈ bfsIn out (rs.take j) <;> simp [h]
structure ReachI (g : Grp) (i : Nat) (out : List Int) : Prop where
  le : i ≤ out.length
  ok : Reached g out
  eq : bfs g (g.length + 1 - i) i out = reachG g
theorem ReachI.step {g : Grp} {i : Nat} {out : List Int} (hg : InG g) (h : ReachI g i out) (hlt : i < out.length) : ReachI g (i + 1) (bfsIn out (risA (armsAt g out[i]))) := by
  have hlen := h.ok.len
  have ho := bfsIn_ok (risA (armsAt g out[i])) h.ok (fun a ha => hg out[i] a (risA_mem.1 ha))
  obtain ⟨r, hr⟩ := bfsIn_app (risA (armsAt g out[i])) out
  refine ⟨by rw [hr, List.length_append]; omega, ho, ?_⟩
  have := h.eq
  rw [show g.length + 1 - i = (g.length + 1 - (i + 1)) + 1 by omega, bfs, List.getElem?_eq_getElem hlt] at this
  exact this
theorem ReachI.done {g : Grp} {out : List Int} (h : ReachI g out.length out) : reachG g = out := by
  have hlen := h.ok.len
  have := h.eq
  rw [show g.length + 1 - out.length = (g.length - out.length) + 1 by omega, bfs, List.getElem?_eq_none (Nat.le_refl _)] at this
  exact this.symm
theorem trnAt_get {l : Loc} {x : Int} (h : 0 ≤ x ∧ x < (l.turns.length : Int)) : (l.turns.map Trn.cs)[x.toNat]? = some (trnAt l x).cs := by
  have hx : x.toNat < l.turns.length := by omega
  rw [List.getElem?_map, List.getElem?_eq_getElem hx]
  simp [trnAt, hx]
theorem trnAt_nodup {l : Loc} (h : locB l = true) (x : Int) : ((trnAt l x).arms.map Arm.label).Nodup ∧ (trnAt l x).arms.length ≤ 6 := by
  have h1 := trnAt_arms h x
  rw [armsAt_loc] at h1
  rcases h1 with h1 | h1
  · rw [h1]; simp
  · have := arms_all h1
    exact ⟨this.2.2, this.1.2⟩
set_option maxHeartbeats 8000000 in
theorem treach_c (l : Loc) (hs : LocBig l) : Con Tryd.prog 33 [] [Ag l.cs] (Rv (intsT (reachL l))) [] := by
  refine con_of (c := _) Tryd.func33 rfl rfl rfl (by decide) fun w M0 H Z => ?_
  repeat' (first
   | refine gc_ rfl ?_
   | (refine g_region ?_; refine run_ th rfl ?_)
   | (refine g_drawC mix rfl rfl ?_; refine drun_ th rfl ?_)
   | (refine g_drawEC mix rfl rfl ?_; refine erun_ th rfl ?_)
   | refine SOps.nil ?_
   | refine DOps.nil ?_
   | refine EOps.nil ?_ rfl rfl
   | (refine s_split rfl rfl (fun hb => ?_) (fun hb => ?_) <;> (try simp only [hbL] at hb) <;> first | (exfalso; omega) | refine run_ th rfl ?_)
   | (refine d_split rfl rfl rfl (fun hb => ?_) (fun hb => ?_) <;> (try simp only [hbL] at hb) <;> first | (exfalso; omega) | refine drun_ th rfl ?_)
   | (refine g_if rfl (fun hb => ?_) (fun hb => ?_) <;> (try simp only [hbL] at hb) <;> (try (exfalso; omega)))
   | refine g_endL th Tryd.func33 (.inr ⟨_, rfl⟩) rfl rfl rfl ?_ rfl
   | (refine s_call (tmay_c l hs) [] rfl rfl rfl rfl rfl rfl rfl rfl rfl rfl ?_; refine run_ th rfl ?_)
   | (refine s_assignAny rfl rfl rfl rfl ?_; refine run_ th rfl ?_)
   | (refine s_putI th (m := []) (.inr rfl) rfl rfl rfl rfl rfl rfl rfl rfl ?_; refine run_ th rfl ?_))
  · rw [show reachL l = [] by unfold reachL; rw [hb]; rfl]
    exact .v (.one (.c (.nil 1)))
  have hv := hb
  obtain ⟨hg, h0, hu⟩ := loc_g hv
  have hn40 := (loc_len hv).2
  have hgl : l.g.length = l.turns.length := by simp [Loc.g]
  refine g_loop2 (fun (i : Nat) (out : List Int) => ReachI l.g i out)
    (fun i _ => [(1, .v (.one (.ptr 1 0))), (3, .v (.one (.own 11))), (4, .v (.one (.mp 12))), (5, .v (C1 (.int .i64 (i : Int))))])
    (fun _ out => [(12, .mpo (entF intF (setK out))), (11, .arr false 3 1 (out.map fun r => [CT.int .i64 r])), (1, .box (l.cs.map SC.c))])
    (fun i _ => l.g.length + 1 - i) 0 [0] ⟨Nat.zero_le _, ⟨by simp, fun x hx => by simp at hx; subst hx; omega⟩, rfl⟩
    (fun a w h => h.sub (by exact ⟨⟨_, rfl, .refl _⟩, ⟨_, rfl, .refl _⟩, ⟨_, rfl, .refl _⟩, ⟨_, rfl, le_int rfl⟩, trivial⟩) (by exact ⟨⟨_, rfl, .refl _⟩, ⟨_, rfl, le_arr rfl⟩, ⟨_, rfl, .refl _⟩, trivial⟩) rfl rfl rfl) (fun i out hI ih => ?_)
  have hlen := hI.ok.len
  have hle := hI.le
  by_cases hlt : i < out.length
  · have hxi : (out.map fun r => [CT.int .i64 r])[i]? = some [.int .i64 out[i]] := by simp [hlt]
    have hxr := hI.ok.range out[i] (List.getElem_mem hlt)
    rw [hgl] at hxr
    have hti := trnAt_get hxr
    have hnd := trnAt_nodup hv out[i]
    have hst := hI.step hg hlt
    rw [armsAt_loc] at hst
    have hrm : ∀ a ∈ risA (trnAt l out[i]).arms, 0 ≤ a.next ∧ a.next < (l.g.length : Int) := fun a ha => hg out[i] a (by rw [armsAt_loc]; exact risA_mem.1 ha)
    repeat' (first
     | refine gc_ rfl ?_
     | (refine g_region ?_; refine run_ th rfl ?_)
     | (refine g_drawC mix rfl rfl ?_; refine drun_ th rfl ?_)
     | (refine g_drawEC mix rfl rfl ?_; refine erun_ th rfl ?_)
     | refine SOps.nil ?_
     | refine DOps.nil ?_
     | refine EOps.nil ?_ rfl rfl
     | (refine s_split rfl rfl (fun hb => ?_) (fun hb => ?_) <;> (try simp only [hbL] at hb) <;> first | (exfalso; omega) | refine run_ th rfl ?_)
     | (refine d_split rfl rfl rfl (fun hb => ?_) (fun hb => ?_) <;> (try simp only [hbL] at hb) <;> first | (exfalso; omega) | refine drun_ th rfl ?_)
     | (refine g_if rfl (fun hb => ?_) (fun hb => ?_) <;> (try simp only [hbL] at hb) <;> (try (exfalso; omega)))
     | (refine d_idxo th rfl rfl rfl rfl rfl rfl rfl rfl rfl rfl i rfl (by rw [List.length_map]; omega) ?_; refine drun_ th rfl ?_)
     | (refine d_loada th _ rfl rfl rfl rfl hxi rfl rfl rfl rfl rfl ?_; refine drun_ th rfl ?_)
     | (refine d_idx th rfl rfl rfl rfl rfl rfl rfl rfl rfl (out[i]).toNat _ (by omega) hti ?_; refine drun_ th rfl ?_)
     | (refine d_call (rising_c (trnAt l out[i]).arms hnd.1 (by omega)) [] rfl rfl rfl rfl rfl rfl rfl rfl rfl rfl rfl ?_; refine drun_ th rfl ?_))
    obtain ⟨rs, hrs⟩ : ∃ rs, rs = risA (trnAt l out[i]).arms := ⟨_, rfl⟩
    rw [← hrs] at hst hrm
    have hrl : rs.length ≤ 6 := by rw [hrs, risA_len]; exact hnd.2
    refine g_loop1 (fun j : Nat => j ≤ rs.length)
      (fun j => [(1, .v (.one (.ptr 1 0))), (3, .v (.one (.own 11))), (4, .v (.one (.mp 12))), (5, .v (C1 (.int .i64 (i : Int)))), (29, .v (C1 (armsC rs))), (30, .v (C1 (.int .i64 (rs.length : Int)))), (31, .v (C1 (.int .i64 (j : Int))))])
      (fun j => [(12, .mpo (entF intF (setK (bfsIn out (rs.take j))))), (11, .arr false 3 1 ((bfsIn out (rs.take j)).map fun r => [CT.int .i64 r])), (1, .box (l.cs.map SC.c))])
      (fun j => rs.length - j) 0 (Nat.zero_le _)
      (fun a w h => h.sub (by exact ⟨⟨_, rfl, .refl _⟩, ⟨_, rfl, .refl _⟩, ⟨_, rfl, .refl _⟩, ⟨_, rfl, .refl _⟩, ⟨_, rfl, le_ct (by rw [hrs])⟩, ⟨_, rfl, le_int (by rw [hrs]; simp)⟩, ⟨_, rfl, le_int rfl⟩, trivial⟩) (by exact ⟨⟨_, rfl, .refl _⟩, ⟨_, rfl, .refl _⟩, ⟨_, rfl, .refl _⟩, trivial⟩) rfl rfl rfl) (fun j hj ih2 => ?_)
    by_cases hjt : j < rs.length
    · have hxj : (rs.map Arm.cs)[j]? = some (rs[j]).cs := by simp [hjt]
      have hok : Reached l.g (bfsIn out (rs.take j)) := bfsIn_ok _ hI.ok fun a ha => hrm a (List.mem_of_mem_take ha)
      have hokl : (bfsIn out (rs.take j)).length ≤ 40 := by have := hok.len; rw [hgl] at this; omega
      have hsucc := bfsIn_succ hjt out
      have hlook : lookC (setK (bfsIn out (rs.take j))) rs[j].next (.bool false) = .bool (memB (bfsIn out (rs.take j)) rs[j].next) := setK_look _ _
      obtain ⟨mb, hmb⟩ : ∃ mb, memB (bfsIn out (rs.take j)) rs[j].next = mb := ⟨_, rfl⟩
      rw [hmb] at hlook hsucc
      repeat' (first
       | refine gc_ rfl ?_
       | (refine g_region ?_; refine run_ th rfl ?_)
       | (refine g_drawC mix rfl rfl ?_; refine drun_ th rfl ?_)
       | (refine g_drawEC mix rfl rfl ?_; refine erun_ th rfl ?_)
       | refine SOps.nil ?_
       | refine DOps.nil ?_
       | refine EOps.nil ?_ rfl rfl
       | (refine s_split rfl rfl (fun hb => ?_) (fun hb => ?_) <;> (try simp only [hbL] at hb) <;> first | (exfalso; omega) | refine run_ th rfl ?_)
       | (refine d_split rfl rfl rfl (fun hb => ?_) (fun hb => ?_) <;> (try simp only [hbL] at hb) <;> first | (exfalso; omega) | refine drun_ th rfl ?_)
       | (refine g_if rfl (fun hb => ?_) (fun hb => ?_) <;> (try simp only [hbL] at hb) <;> (try (exfalso; omega)))
       | (refine s_idx th rfl rfl rfl rfl rfl rfl rfl rfl rfl j _ rfl hxj ?_; refine run_ th rfl ?_)
       | (refine s_lookI th (m := setK (bfsIn out (rs.take j))) rfl rfl rfl rfl rfl rfl rfl rfl rfl rfl rfl rfl ?_; rw [hlook]; refine run_ th rfl ?_)
       | (refine s_putI th (m := setK (bfsIn out (rs.take j))) (.inl rfl) rfl rfl rfl rfl rfl rfl rfl rfl ?_; refine run_ th rfl ?_)
       | (refine s_append th rfl rfl rfl rfl rfl rfl rfl rfl rfl rfl rfl rfl rfl rfl rfl (by constructor <;> simp <;> omega) ?_; refine run_ th rfl ?_)
       | (refine s_add rfl rfl rfl rfl rfl rfl (by omega) ?_; refine run_ th rfl ?_))
      · have hih := ih2 (j + 1) hjt (by omega)
        rw [hb] at hsucc hmb
        rw [hsucc] at hih
        exact g_sub (by exact ⟨⟨_, rfl, .refl _⟩, ⟨_, rfl, .refl _⟩, ⟨_, rfl, .refl _⟩, ⟨_, rfl, .refl _⟩, ⟨_, rfl, .refl _⟩, ⟨_, rfl, .refl _⟩, ⟨_, rfl, le_int (by omega)⟩, trivial⟩)
          (by exact ⟨⟨_, rfl, le_mpo (by rw [setK_put (notMem_of hmb)]; rfl)⟩, ⟨_, rfl, le_arr (by simp)⟩, ⟨_, rfl, .refl _⟩, trivial⟩) rfl rfl rfl hih
      · have hih := ih2 (j + 1) hjt (by omega)
        rw [hb] at hsucc
        rw [hsucc] at hih
        exact g_sub (by exact ⟨⟨_, rfl, .refl _⟩, ⟨_, rfl, .refl _⟩, ⟨_, rfl, .refl _⟩, ⟨_, rfl, .refl _⟩, ⟨_, rfl, .refl _⟩, ⟨_, rfl, .refl _⟩, ⟨_, rfl, le_int (by omega)⟩, trivial⟩)
          (by exact ⟨⟨_, rfl, .refl _⟩, ⟨_, rfl, .refl _⟩, ⟨_, rfl, .refl _⟩, trivial⟩) rfl rfl rfl hih
    · have hje : j = rs.length := by omega
      subst hje
      rw [List.take_length]
      repeat' (first
       | refine gc_ rfl ?_
       | (refine g_region ?_; refine run_ th rfl ?_)
       | (refine g_drawC mix rfl rfl ?_; refine drun_ th rfl ?_)
       | (refine g_drawEC mix rfl rfl ?_; refine erun_ th rfl ?_)
       | refine SOps.nil ?_
       | refine DOps.nil ?_
       | refine EOps.nil ?_ rfl rfl
       | (refine s_split rfl rfl (fun hb => ?_) (fun hb => ?_) <;> (try simp only [hbL] at hb) <;> first | (exfalso; omega) | refine run_ th rfl ?_)
       | (refine d_split rfl rfl rfl (fun hb => ?_) (fun hb => ?_) <;> (try simp only [hbL] at hb) <;> first | (exfalso; omega) | refine drun_ th rfl ?_)
       | (refine g_if rfl (fun hb => ?_) (fun hb => ?_) <;> (try simp only [hbL] at hb) <;> (try (exfalso; omega)))
       | (refine s_add rfl rfl rfl rfl rfl rfl (by omega) ?_; refine run_ th rfl ?_))
      have hih := ih (i + 1) (bfsIn out rs) hst (by omega)
      exact g_sub (by exact ⟨⟨_, rfl, .refl _⟩, ⟨_, rfl, .refl _⟩, ⟨_, rfl, .refl _⟩, ⟨_, rfl, le_int (by omega)⟩, trivial⟩) (by exact ⟨⟨_, rfl, .refl _⟩, ⟨_, rfl, .refl _⟩, ⟨_, rfl, .refl _⟩, trivial⟩) rfl rfl rfl hih
  · have hie : i = out.length := by omega
    subst hie
    have hdn : reachL l = out := by unfold reachL; rw [if_pos hv]; exact hI.done
    repeat' (first
     | refine gc_ rfl ?_
     | (refine g_region ?_; refine run_ th rfl ?_)
     | (refine g_drawC mix rfl rfl ?_; refine drun_ th rfl ?_)
     | (refine g_drawEC mix rfl rfl ?_; refine erun_ th rfl ?_)
     | refine SOps.nil ?_
     | refine DOps.nil ?_
     | refine EOps.nil ?_ rfl rfl
     | (refine s_split rfl rfl (fun hb => ?_) (fun hb => ?_) <;> (try simp only [hbL] at hb) <;> first | (exfalso; omega) | refine run_ th rfl ?_)
     | (refine d_split rfl rfl rfl (fun hb => ?_) (fun hb => ?_) <;> (try simp only [hbL] at hb) <;> first | (exfalso; omega) | refine drun_ th rfl ?_)
     | (refine g_if rfl (fun hb => ?_) (fun hb => ?_) <;> (try simp only [hbL] at hb) <;> (try (exfalso; omega)))
     | refine g_endL th Tryd.func33 (.inr ⟨_, rfl⟩) rfl rfl rfl ?_ rfl
     | (refine g_freeze 11 rfl rfl ?_))
    rw [hdn]
    exact .refl _
end Go.Sy
