/- Contracts of the reference, bundle Bv1. -/
import Derived.Test.YtdjocfajcbhmgaaDoorBu3
import Derived.Test.YtdjocfajcbhmgaaDoorBn1
import Derived.Test.YtdjocfajcbhmgaaDoorBu1
import Derived.Test.YtdjocfajcbhmgaaDoorBl1
import Derived.Test.YtdjocfajcbhmgaaDoorLayp
import Derived.Shelf.Slices.In.SortNone
set_option linter.unusedSimpArgs false
set_option linter.unusedVariables false
set_option linter.unusedSectionVars false
namespace Go.Sy
open Go.Proofs Go.Shelf Go.RowKit Go.Sort
set_option maxRecDepth 100000
attribute [local irreducible] SOps Goes DOps EOps FOps
theorem putCells_map {α : Type} [Inhabited α] (enc : α → Value) (off : Nat) (d : Array α) (c : Array Value) : putCells enc off d c = putCells id off (d.map enc) c := by
  unfold putCells
  apply Array.ext
  · simp
  · intro i h1 h2
    simp only [Array.getElem_mapIdx, Array.size_map, id]
    split
    · rename_i h
      rw [getElem!_pos d (i - off) (by omega), getElem!_pos (d.map enc) (i - off) (by simp; omega), Array.getElem_map]
    · rfl
theorem putRow_map {α : Type} [Inhabited α] (enc : α → Value) (w : World) (g off : Nat) (d : Array α) : putRow enc w g off d = putRow id w g off (d.map enc) := by
  unfold putRow
  congr 1
  funext c
  exact putCells_map enc off d c
theorem grow_none (w : World) : grow w #[] = w := by
  unfold grow; simp
theorem holds_map {α : Type} [Inhabited α] {enc : α → Value} {w : World} {g off : Nat} {d : Array α} (h : Holds id w g off (d.map enc)) : Holds enc w g off d := fun j hj => by
  have := h j (by simpa using hj)
  rw [getElem!_pos (d.map enc) j (by simpa using hj), Array.getElem_map] at this
  rw [getElem!_pos d j hj]
  exact this
theorem rowS_vals {l : List ByteArray} {us : List Value} {w : World} {M : Nat → Prop} (hl : us.length = l.length * 1)
    (h : ∀ (i : Nat) (x : List CT), (rowS l)[i]? = some x → ∀ (j : Nat) (c : CT), x[j]? = some c → ∃ u : Value, us[i * 1 + j]? = some u ∧ RepC w M u c) : us = (l.map bl).map encStr := by
  apply List.ext_getElem?
  intro t
  by_cases ht : t < l.length
  · obtain ⟨u, hu, hr⟩ := h t [.str l[t]] (by simp [ht]) 0 _ rfl
    have := RepC.str_inv hr
    rw [show t * 1 + 0 = t by omega] at hu
    rw [hu, this]
    simp [ht]
  · rw [List.getElem?_eq_none (by omega), List.getElem?_eq_none (by simpa using (by omega : l.length ≤ t))]
theorem rowS_get {l : List ByteArray} {r : List (List UInt8)} {i : Nat} {x : List CT} (hx : (rowS l)[i]? = some x) {j : Nat} {c : CT} (hc : x[j]? = some c) :
    ∃ u : Value, (((l.map bl ++ r).toArray).map encStr)[i * 1 + j]? = some u ∧ ∀ w M, RepC w M u c := by
  rw [List.getElem?_map] at hx
  cases hq : l[i]? with
  | none => rw [hq] at hx; cases hx
  | some s =>
    rw [hq] at hx; injection hx with hx; subst hx
    match j, hc with
    | 0, hc =>
      simp at hc; subst hc
      have hi := (List.getElem?_eq_some_iff.1 hq).1
      refine ⟨.string s, ?_, fun _ _ => RepC.str _⟩
      rw [show i * 1 + 0 = i by omega, Array.getElem?_map, List.getElem?_toArray, List.getElem?_append_left (by simpa using hi), List.getElem?_map, hq]
      rfl
    | j + 1, hc => simp at hc
theorem sortS_c (v : Value) (l : List ByteArray) (hl : l.length < 4611686018427387904) :
    ConM Tryd.prog 51 [(1, .pool 9 1 [(v, rowS l)])] [.one (.c (.val v))]
      (fun _ : Unit => True) (fun _ => .tup []) (fun _ => [(1, .pool 9 1 [(v, rowS (sortN l))])]) := by
  refine conM_row (more := []) (ev := []) (callOK (c := _) Tryd.func51 rfl rfl)
    (fun x hx => by obtain ⟨a, _, rfl⟩ := List.mem_map.1 hx; rfl) (by rw [List.length_map, List.length_map, sortN_len]) (fun I H Z w M vs hp => ?_) (fun hv w => ?_) (fun w g cap us hv hown hrep => ?_)
  · have := hp.1
    exact List.eq_nil_of_length_eq_zero (by simpa using this)
  · subst hv
    exact Any.slices_Sort_string_none Tryd.laysSortS none 0 w
  · obtain ⟨M, hrep⟩ := hrep
    have hus : us = (l.map bl).map encStr := rowS_vals (by have := hown.1; simpa using this) hrep
    subst hv
    obtain ⟨hblk, hH⟩ := owns_holds hown
    have hHs : Holds encStr w g 0 (l.map bl).toArray := holds_map (by rw [hus] at hH; simpa using hH)
    have hcon := Any.slices_Sort_string Tryd.laysSortS g 0 cap (l.map bl) w hHs hblk (by simpa using hl)
    simp only [List.length_map] at hcon ⊢
    refine hcon.mono ?_
    rintro e' w' ⟨rfl, n, os, rfl⟩
    refine ⟨rfl, _, n, os, ?_, by rw [putRow_map], fun i x hx j c hc => ?_⟩
    · rw [hus]; simp [List.length_mergeSort]
    · have h := rowS_get (r := []) hx hc
      rw [List.append_nil] at h
      unfold sortN at h
      rw [map_bl] at h
      exact h
def hdrV : Value → Nat → Value
  | .slice a _ c, n => .slice a n c
  | v, _ => v
theorem owns_less {w : World} {e sz g n m cap : Nat} {us : List Value} (h : w.ownsRow 0 e sz (.slice (some ⟨g, 0, none⟩) n cap) n us) (hm : m ≤ n) :
    w.ownsRow 0 e sz (.slice (some ⟨g, 0, none⟩) m cap) m (us.take (m * sz)) := by
  rcases h.2 with ⟨e0, _⟩ | ⟨g', cap', cur, e0, hb, hg, hn, hm', hs, ht⟩
  · cases e0
  · cases e0
    have hle := Nat.mul_le_mul_right sz hm
    have hul : us.length = n * sz := h.1
    refine ⟨by rw [List.length_take, hul]; omega, .inr ⟨g, cap, cur, rfl, hb, hg, by omega, hm', hs, ?_⟩⟩
    rw [← ht, List.take_take, Nat.min_eq_left hle]
theorem conM_rowH {P : Program} {f : FuncId} {e sz : Nat} {v : Value} {xs ys : List (List CT)} (hok : CallOK P f)
    (hy : ∀ x ∈ ys, x.length = sz) (hl : ys.length ≤ xs.length)
    (hnil : v = .slice none 0 0 → ∀ w, Calls P f #[v] w fun e w' => e = .returned v ∧ w' = w)
    (hrow : ∀ (w : World) (g cap : Nat) (us : List Value), v = .slice (some ⟨g, 0, none⟩) xs.length cap → w.ownsRow 0 e sz v xs.length us →
      (∃ M : Nat → Prop, ∀ (i : Nat) (x : List CT), xs[i]? = some x → ∀ (j : Nat) (c : CT), x[j]? = some c → ∃ u : Value, us[i * sz + j]? = some u ∧ RepC w M u c) →
      Calls P f #[v] w fun e w' => e = .returned (hdrV v ys.length) ∧ ∃ (F : Array Value) (q : Nat) (os : Array Obj), F.size = us.length ∧ w' = grow (putRow id (Sort.ahead w q) g 0 F) os ∧
        ∀ (i : Nat) (x : List CT), ys[i]? = some x → ∀ (j : Nat) (c : CT), x[j]? = some c → ∃ u : Value, F[i * sz + j]? = some u ∧ ∀ w M, RepC w M u c) :
    ConM P f [(1, .pool e sz [(v, xs)])] [.one (.c (.val v))] (fun _ : Unit => True) (fun _ => .v (C1 (.val (hdrV v ys.length)))) (fun _ => [(1, .pool e sz [(hdrV v ys.length, ys)])]) := by
  refine ⟨hok, fun w M0 H Z vs hpre hargs => ?_⟩
  obtain ⟨v0, rfl⟩ : ∃ v0, vs = [v0] := by
    match vs, hargs.1 with
    | [a], _ => exact ⟨a, rfl⟩
    | [], h => simp at h
    | _ :: _ :: _, h => simp at h
  obtain ⟨u0, hu0, hr0⟩ := hargs.2 0 _ rfl
  simp only [List.getElem?_cons_zero, Option.some.injEq] at hu0
  subst hu0
  have hv0 : v0 = v := RepC.val_inv hr0
  subst hv0
  obtain ⟨hH, hpool⟩ := hpre.mem (1, .pool e sz [(v0, xs)]) List.mem_cons_self
  simp only at hH hpool
  obtain ⟨us, hown, hlen, hrep⟩ := hpool.row (k := 0) rfl
  have hb0 : ∀ b, Hb (H 1) b ↔ hblk v0 = some b := fun b => by
    rw [hH]
    show Hb (poolV [(v0, xs)]) b ↔ _
    rw [poolV_Hb]; simp
  have hbl : ∀ b, blksOf H [(1, MO.pool e sz [(v0, xs)])] b ↔ hblk v0 = some b := fun b => by
    constructor
    · rintro ⟨p, hp, hpb⟩
      rw [List.mem_singleton.1 hp] at hpb
      exact (hb0 b).1 hpb
    · exact fun h => ⟨_, List.mem_cons_self, (hb0 b).2 h⟩
  have hh : hblk (hdrV v0 ys.length) = hblk v0 := by
    cases v0 with
    | slice a n c => cases a <;> rfl
    | _ => rfl
  have fin : ∀ w', Ext (fun b => hblk v0 = some b) w w' → RowOK w' (fun b => M0 b ∨ hblk v0 = some b) e sz (hdrV v0 ys.length) ys → EndM H Z [(1, .pool e sz [(v0, xs)])] (fun _ : Unit => True) (fun _ => .v (C1 (.val (hdrV v0 ys.length)))) (fun _ => [(1, .pool e sz [(hdrV v0 ys.length, ys)])]) w M0 (.returned (hdrV v0 ys.length)) w' := by
    intro w' hext hrow'
    have hN : ∀ b, Hb (poolV [(hdrV v0 ys.length, ys)]) b ↔ hblk v0 = some b := fun b => by rw [poolV_Hb]; simp [hh]
    refine ⟨(), hdrV v0 ys.length, fun i => if i = 1 then poolV [(hdrV v0 ys.length, ys)] else H i, trivial, rfl, hext.weak fun b _ hb => (hbl b).2 hb, ⟨fun p hp hg => ?_, fun p hp => ?_, fun p hp b hb => ?_, fun p hp q hq hpq => ?_⟩, ?_⟩
    · rw [List.mem_singleton.1 hp] at hg
      exact absurd hg (show ¬ given ≤ 1 by decide)
    · rw [List.mem_singleton.1 hp]
      refine ⟨if_pos rfl, fun k q hk => ?_, fun k l q r hk hl' hkl => ?_⟩
      · match k, hk with
        | 0, hk =>
          simp only [List.getElem?_cons_zero, Option.some.injEq] at hk; subst hk
          refine RowOK.mono (v := hdrV v0 ys.length) (xs := ys) hrow' (fun _ _ => rfl) (Nat.le_refl _) (fun _ _ _ => rfl) fun b _ hb => ?_
          rcases hb with hb | ⟨p, hp, hpb⟩
          · exact .inl hb
          · rw [List.mem_singleton.1 hp] at hpb
            exact .inr ((hN b).1 (by simpa using hpb))
        | k + 1, hk => simp at hk
      · match k, l, hk, hl' with
        | 0, 0, _, _ => exact absurd rfl hkl
        | 0, l + 1, _, hl' => simp at hl'
        | k + 1, _, hk, _ => simp at hk
    · rw [List.mem_singleton.1 hp] at hb ⊢
      have hb := (hN b).1 (by simpa using hb)
      have hb1 : Hb (H 1) b := (hb0 b).2 hb
      have hlt := hpre.lt _ List.mem_cons_self b hb1
      exact ⟨Nat.lt_of_lt_of_le hlt hext.size, .inr ⟨_, List.mem_cons_self, hb1, .inl rfl⟩⟩
    · rw [List.mem_singleton.1 hp, List.mem_singleton.1 hq] at hpq; exact absurd rfl hpq
    · refine (RepC.val _ ?_ : RepC w' _ _ (.val (hdrV v0 ys.length)))
      cases v0 with
      | slice a n c => rfl
      | _ => first | rfl | (rcases hown.2 with ⟨e0, _⟩ | ⟨_, _, _, e0, _⟩ <;> cases e0)
  rcases hown.2 with ⟨hv, hn⟩ | ⟨g, cap, cur, hv, _⟩
  · have hx : xs = [] := List.eq_nil_of_length_eq_zero hn
    have hy0 : ys = [] := List.eq_nil_of_length_eq_zero (by rw [hx] at hl; simpa using hl)
    refine (hnil hv w).mono ?_
    rintro e' w' ⟨rfl, hw⟩
    rw [hw]
    have := fin w (Ext.refl _ _) (by rw [hy0, hv]; exact RowOK.nil _ _ _ _)
    rw [hy0, hv] at this ⊢
    exact this
  · refine (hrow w g cap us hv hown ⟨_, hrep⟩).mono ?_
    rintro e' w' ⟨rfl, F, q, os, hF, rfl, hFr⟩
    have hown0 := hown
    rw [hv] at hown
    have ho := owns_less (owns_put hown hF q os) hl
    refine fin _ (put_ext.weak fun b _ hb => by rw [hv, hb]; rfl) ⟨F.toList.take (ys.length * sz), by rw [hv]; exact ho, hy, fun i x hx j c hc => ?_⟩
    obtain ⟨u, hu, hr⟩ := hFr i x hx j c hc
    have hil : i < ys.length := (List.getElem?_eq_some_iff.1 hx).1
    have hjl : j < sz := by rw [← hy x (List.mem_of_getElem? hx)]; exact (List.getElem?_eq_some_iff.1 hc).1
    have hlt : i * sz + j < ys.length * sz := by
      have := Nat.mul_le_mul_right sz (show i + 1 ≤ ys.length from hil)
      rw [Nat.add_mul, Nat.one_mul] at this
      omega
    exact ⟨u, by rw [List.getElem?_take, if_pos hlt, Array.getElem?_toList]; exact hu, hr _ _⟩
theorem compS_c (v : Value) (l : List ByteArray) (hl : l.length < 4611686018427387904) :
    ConM Tryd.prog 52 [(1, .pool 9 1 [(v, rowS l)])] [.one (.c (.val v))]
      (fun _ : Unit => True) (fun _ => .v (C1 (.val (hdrV v (rowS (compN l)).length)))) (fun _ => [(1, .pool 9 1 [(hdrV v (rowS (compN l)).length, rowS (compN l))])]) := by
  refine conM_rowH (callOK (c := _) Tryd.func52 rfl rfl)
    (fun x hx => by obtain ⟨a, _, rfl⟩ := List.mem_map.1 hx; rfl) (by rw [List.length_map, List.length_map]; exact compN_len l) (fun hv w => ?_) (fun w g cap us hv hown hrep => ?_)
  · subst hv
    exact Any.slices_Compact_string_empty Tryd.laysCompact none 0 w
  · obtain ⟨M, hrep⟩ := hrep
    have hus : us = (l.map bl).map encStr := rowS_vals (by have := hown.1; simpa using this) hrep
    have hcap : l.length ≤ cap := by
      rcases hown.2 with ⟨e0, _⟩ | ⟨g', cap', cur, e0, _, _, hn, _⟩
      · rw [hv] at e0; cases e0
      · rw [hv] at e0; cases e0; simpa using hn
    subst hv
    obtain ⟨hblk, hH⟩ := owns_holds hown
    have hHs : Holds encStr w g 0 (l.map bl).toArray := holds_map (by rw [hus] at hH; simpa using hH)
    have hcon := Any.slices_Compact_string Tryd.laysCompact g 0 cap (l.map bl) w hHs (by simp; omega) (by simpa using hcap)
    simp only [List.length_map] at hcon ⊢
    have hcl : (Lib.compact (l.map bl)).length = (compN l).length := by unfold compN; simp
    refine hcon.mono ?_
    rintro e' w' ⟨rfl, n, rfl⟩
    refine ⟨by rw [hcl]; rfl, _, n, #[], ?_, by rw [putRow_map, grow_none], fun i x hx j c hc => ?_⟩
    · have := compN_len l
      rw [hus]; simp; omega
    · have h := rowS_get (r := List.replicate (l.length - (Lib.compact (l.map bl)).length) []) hx hc
      unfold compN at h
      rw [map_bl] at h
      exact h
theorem put_c (l : List ByteArray) (s : ByteArray) (hl : l.length ≤ 1000) : Con Tryd.prog 34 [] [C1 (namesT l), C1 (.str s)] (Rv (namesT (putN l s))) [] := by
  refine con_of (c := _) Tryd.func34 rfl rfl rfl (by decide) fun w M0 H Z => ?_
  repeat' (first
   | (refine g_toPool 200 rfl rfl fun v => ?_)
   | refine gc_ rfl ?_
   | (refine g_region ?_; refine run_ th rfl ?_)
   | (refine g_drawC mix rfl rfl ?_; refine drun_ th rfl ?_)
   | (refine g_drawEC mix rfl rfl ?_; refine erun_ th rfl ?_)
   | refine SOps.nil ?_
   | refine DOps.nil ?_
   | refine EOps.nil ?_ rfl rfl
   | (refine s_split rfl rfl (fun hb => ?_) (fun hb => ?_) <;> (try simp only [hbL] at hb) <;> first | (exfalso; omega) | refine run_ th rfl ?_)
   | (refine d_split rfl rfl rfl (fun hb => ?_) (fun hb => ?_) <;> (try simp only [hbL] at hb) <;> first | (exfalso; omega) | refine drun_ th rfl ?_)
   | (refine g_if rfl (fun hb => ?_) (fun hb => ?_) <;> (try simp only [hbL] at hb) <;> (try (exfalso; omega)))
   | (refine s_assignAny rfl rfl rfl rfl ?_; refine run_ th rfl ?_)
   | (refine s_callO (cloneStrO_c l (by omega)) [91] rfl rfl rfl rfl rfl rfl rfl rfl rfl (fun _ => rfl) (fun vA _ => ?_); refine run_ th rfl ?_)
   | (refine s_ownP 91 200 7 rfl rfl rfl rfl rfl rfl rfl ?_; refine run_ th rfl ?_)
   | (refine s_append th rfl rfl rfl rfl rfl rfl rfl rfl rfl rfl rfl rfl rfl rfl rfl (by constructor <;> simp <;> omega) ?_; rw [show (rowS l ++ [[CT.str s]]) = rowS (l ++ [s]) by simp]; refine run_ th rfl ?_)
   | (refine s_callM (sortS_c v (l ++ [s]) (by simp; omega)) [(1, 200)] rfl rfl rfl rfl ⟨rfl, trivial⟩ ⟨rfl, rfl, rfl, rfl, rfl⟩ (fun _ => ⟨rfl, rfl, rfl, rfl, rfl, rfl, rfl⟩) (fun _ => rfl) (fun _ => rfl) rfl rfl rfl (fun _ _ => ?_); refine run_ th rfl ?_)
   | (refine s_callM (compS_c v (sortN (l ++ [s])) (by rw [sortN_len]; simp; omega)) [(1, 200)] rfl rfl rfl rfl ⟨rfl, trivial⟩ ⟨rfl, rfl, rfl, rfl, rfl⟩ (fun _ => ⟨rfl, rfl, rfl, rfl, rfl, rfl, rfl⟩) (fun _ => rfl) (fun _ => rfl) rfl rfl rfl (fun _ _ => ?_); refine run_ th rfl ?_))
  refine g_freezeT 200 4 rfl rfl rfl rfl rfl ?_
  refine g_endL th Tryd.func34 (.inr ⟨_, rfl⟩) rfl rfl rfl ?_ rfl
  exact .refl _
end Go.Sy
namespace Go.Sy
open Go.Proofs
set_option maxRecDepth 100000
attribute [local irreducible] SOps Goes DOps EOps
theorem peersS_snoc {l : Loc} {rows : List Int} {i : Nat} (h : i < rows.length) : peersS l (rows.take (i + 1)) = peersF l (peersS l (rows.take i)) rows[i] := by
  unfold peersS
  rw [List.take_succ_eq_append_getElem h, List.foldl_append]; rfl
set_option maxHeartbeats 4000000 in
theorem tpeers_c (l : Loc) (hs : LocBig l) : Con Tryd.prog 13 [] [Ag l.cs] (Rv (namesT (peersL l))) [] := by
  obtain ⟨rows, hrows⟩ : ∃ rows, rows = reachL l := ⟨_, rfl⟩
  have hin : ∀ i (h : i < rows.length), locB l = true ∧ 0 ≤ rows[i] ∧ rows[i] < (l.turns.length : Int) := fun i h => by
    subst hrows
    unfold reachL at h ⊢
    by_cases hv : locB l = true
    · rw [if_pos hv] at h
      simp only [if_pos hv]
      obtain ⟨hg, h0, _⟩ := loc_g hv
      have := reach_pos hg h0 (List.getElem_mem h)
      exact ⟨hv, this.1, by simpa [Loc.g] using this.2⟩
    · rw [if_neg hv] at h; simp at h
  have hlen : rows.length ≤ 40 := by
    subst hrows
    unfold reachL
    split
    · rename_i hv
      obtain ⟨hg, h0, _⟩ := loc_g hv
      have h1 := (reach_ok hg h0).1.len
      have h2 := loc_len hv
      have h3 : l.g.length = l.turns.length := by simp [Loc.g]
      omega
    · simp
  have hres : peersL l = peersS l rows := by
    subst hrows
    unfold peersL reachL
    split <;> rfl
  rw [hres]
  have hc := treach_c l hs
  rw [← hrows] at hc
  refine con_of (c := _) Tryd.func13 rfl rfl rfl (by decide) fun w M0 H Z => ?_
  repeat' (first
   | refine gc_ rfl ?_
   | (refine g_region ?_; refine run_ th rfl ?_)
   | (refine g_drawC mix rfl rfl ?_; refine drun_ th rfl ?_)
   | (refine g_drawEC mix rfl rfl ?_; refine erun_ th rfl ?_)
   | refine SOps.nil ?_
   | refine DOps.nil ?_
   | refine EOps.nil ?_ rfl rfl
   | (refine s_split rfl rfl (fun hb => ?_) (fun hb => ?_) <;> (try simp only [hbL] at hb) <;> first | (exfalso; omega) | refine run_ th rfl ?_)
   | (refine d_split rfl rfl rfl (fun hb => ?_) (fun hb => ?_) <;> (try simp only [hbL] at hb) <;> first | (exfalso; omega) | refine drun_ th rfl ?_)
   | (refine g_if rfl (fun hb => ?_) (fun hb => ?_) <;> (try simp only [hbL] at hb) <;> (try (exfalso; omega)))
   | (refine s_call hc [] rfl rfl rfl rfl rfl rfl rfl rfl rfl rfl ?_; refine run_ th rfl ?_))
  refine g_loop1 (fun k : Nat => k ≤ rows.length)
    (fun k => [(1, .v (.one (.ptr 1 0))), (3, .v (C1 (namesT (peersS l (rows.take k))))), (7, .v (C1 (intsT rows))), (8, .v (C1 (.int .i64 (rows.length : Int)))), (9, .v (C1 (.int .i64 (k : Int))))])
    (fun _ => [(1, .box [.c (.str l.name), .c (turnsC l.turns)])])
    (fun k => rows.length - k) 0 (Nat.zero_le _)
    (fun a w h => h.sub (by exact ⟨⟨_, rfl, .refl _⟩, ⟨_, rfl, .v (.one (.c (.nil 1)))⟩, ⟨_, rfl, .refl _⟩, ⟨_, rfl, le_int (by simp)⟩, ⟨_, rfl, le_int rfl⟩, trivial⟩) (by exact ⟨⟨_, rfl, .refl _⟩, trivial⟩) rfl rfl rfl) (fun k hk ih => ?_)
  by_cases hlt : k < rows.length
  · obtain ⟨hv, h0, h1⟩ := hin k hlt
    have hx : (rows.map fun r => [CT.int .i64 r])[k]? = some [.int .i64 rows[k]] := by simp [hlt]
    have hyl : rows[k].toNat < l.turns.length := by omega
    have hy : (l.turns.map Trn.cs)[rows[k].toNat]? = some (l.turns[rows[k].toNat]).cs := by simp [hyl]
    have e1 : trnAt l rows[k] = l.turns[rows[k].toNat] := by unfold trnAt; rw [List.getD_eq_getElem?_getD, List.getElem?_eq_getElem hyl]; rfl
    have hp := peersS_snoc (l := l) hlt
    have hpl := peersS_len l (rows.take k)
    rw [List.length_take] at hpl
    have hih := ih (k + 1) hlt (by omega)
    have hput := put_c (peersS l (rows.take k)) (l.turns[rows[k].toNat]).peer (by omega)
    repeat' (first
     | refine gc_ rfl ?_
     | (refine g_region ?_; refine run_ th rfl ?_)
     | (refine g_drawC mix rfl rfl ?_; refine drun_ th rfl ?_)
     | (refine g_drawEC mix rfl rfl ?_; refine erun_ th rfl ?_)
     | refine SOps.nil ?_
     | refine DOps.nil ?_
     | refine EOps.nil ?_ rfl rfl
     | (refine s_split rfl rfl (fun hb => ?_) (fun hb => ?_) <;> (try simp only [hbL] at hb) <;> first | (exfalso; omega) | refine run_ th rfl ?_)
     | (refine d_split rfl rfl rfl (fun hb => ?_) (fun hb => ?_) <;> (try simp only [hbL] at hb) <;> first | (exfalso; omega) | refine drun_ th rfl ?_)
     | (refine g_if rfl (fun hb => ?_) (fun hb => ?_) <;> (try simp only [hbL] at hb) <;> (try (exfalso; omega)))
     | (refine s_idx th rfl rfl rfl rfl rfl rfl rfl rfl rfl k _ rfl hx ?_; refine run_ th rfl ?_)
     | (refine s_idx th rfl rfl rfl rfl rfl rfl rfl rfl rfl rows[k].toNat _ (by omega) hy ?_; refine run_ th rfl ?_)
     | (refine s_call hput [] rfl rfl rfl rfl rfl rfl rfl rfl rfl rfl ?_; refine run_ th rfl ?_)
     | (refine s_add rfl rfl rfl rfl rfl rfl (by omega) ?_; refine run_ th rfl ?_))
    · rw [show peersS l (rows.take (k + 1)) = putN (peersS l (rows.take k)) (l.turns[rows[k].toNat]).peer by rw [hp, peersF, e1, if_neg (by simpa using hb)]] at hih
      exact g_sub (by exact ⟨⟨_, rfl, .refl _⟩, ⟨_, rfl, .refl _⟩, ⟨_, rfl, .refl _⟩, ⟨_, rfl, .refl _⟩, ⟨_, rfl, le_int (by omega)⟩, trivial⟩) (by exact ⟨⟨_, rfl, .refl _⟩, trivial⟩) rfl rfl rfl hih
    · rw [show peersS l (rows.take (k + 1)) = peersS l (rows.take k) by rw [hp, peersF, e1, if_pos (by simpa using hb)]] at hih
      exact g_sub (by exact ⟨⟨_, rfl, .refl _⟩, ⟨_, rfl, .refl _⟩, ⟨_, rfl, .refl _⟩, ⟨_, rfl, .refl _⟩, ⟨_, rfl, le_int (by omega)⟩, trivial⟩) (by exact ⟨⟨_, rfl, .refl _⟩, trivial⟩) rfl rfl rfl hih
  · rw [show rows.take k = rows from List.take_of_length_le (by omega)]
    repeat' (first
     | refine gc_ rfl ?_
     | (refine g_region ?_; refine run_ th rfl ?_)
     | (refine g_drawC mix rfl rfl ?_; refine drun_ th rfl ?_)
     | (refine g_drawEC mix rfl rfl ?_; refine erun_ th rfl ?_)
     | refine SOps.nil ?_
     | refine DOps.nil ?_
     | refine EOps.nil ?_ rfl rfl
     | (refine s_split rfl rfl (fun hb => ?_) (fun hb => ?_) <;> (try simp only [hbL] at hb) <;> first | (exfalso; omega) | refine run_ th rfl ?_)
     | (refine d_split rfl rfl rfl (fun hb => ?_) (fun hb => ?_) <;> (try simp only [hbL] at hb) <;> first | (exfalso; omega) | refine drun_ th rfl ?_)
     | (refine g_if rfl (fun hb => ?_) (fun hb => ?_) <;> (try simp only [hbL] at hb) <;> (try (exfalso; omega)))
     | refine g_endL th Tryd.func13 (.inr ⟨_, rfl⟩) rfl rfl rfl ?_ rfl)
    exact .refl _
end Go.Sy
