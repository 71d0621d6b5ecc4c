/- Contracts: strconv.Itoa at small numbers; project.key; keys of different sets differ. -/
import Derived.Test.YtdjocfajcbhmgaaDoorZ14
import Derived.Test.YtdjocfajcbhmgaaDoorBu1
import Derived.Test.YtdjocfajcbhmgaaDoorLayp
import Derived.Test.YtdjocfajcbhmgaaDoorZ13
set_option linter.unusedSimpArgs false
set_option linter.unusedVariables false
set_option linter.unusedSectionVars false
namespace Go.Sy
open Go.Proofs
set_option maxRecDepth 100000
attribute [local irreducible] SOps Goes DOps EOps
theorem itoaJ_c (k : Nat) (hk : k < 100) : Con Tryd.prog 49 [] [C1 (.int .i64 (k : Int))] (Rv (.str ⟨(digs k).toArray⟩)) [] := by
  refine ⟨callOK (c := _) Tryd.func49 rfl rfl, fun w M0 H Z vs hpre hargs => ?_⟩
  obtain ⟨v, rfl⟩ : ∃ v, vs = [v] := by
    match vs, hargs.1 with
    | [v], _ => exact ⟨v, rfl⟩
  obtain ⟨u, hu, hr⟩ := hargs.2 0 _ rfl
  simp only [List.getElem?_cons_zero, Option.some.injEq] at hu
  subst hu
  have hv : v = .int .i64 (k : Int) := RepC.int_inv hr
  subst hv
  refine Calls.mono (Any.strconv_Itoa_small { Tryd.laysItoa with } k hk w) ?_
  rintro e w' ⟨rfl, rfl⟩
  refine ⟨_, rfl, Ext.refl _ _, fun p hp => by simp [preMM] at hp, ?_⟩
  rw [digs_eq hk]
  exact RepC.str _
abbrev itJ (m : Int) : ByteArray := ⟨(digs m.toNat).toArray⟩
theorem itoaJ_i (m : Int) (h0 : 0 ≤ m) (h1 : m < 100) : Con Tryd.prog 49 [] [C1 (.int .i64 m)] (Rv (.str (itJ m))) [] := by
  have := itoaJ_c m.toNat (by omega)
  rw [show ((m.toNat : Nat) : Int) = m by omega] at this
  exact this
theorem digsJ_len (k : Nat) : (digs k).length ≤ 2 := by unfold digs; split <;> simp
theorem itJ_size (m : Int) : (itJ m).size ≤ 2 := by
  have := digsJ_len m.toNat
  simpa [itJ, ByteArray.size] using this
def keyU (l : List Int) : List UInt8 := l.flatMap fun m => digs m.toNat ++ [32]
def keyJ (l : List Int) : ByteArray := ⟨(keyU l).toArray⟩
theorem baJ_ext {a b : ByteArray} (h : a.data.toList = b.data.toList) : a = b := by
  obtain ⟨⟨a⟩⟩ := a
  obtain ⟨⟨b⟩⟩ := b
  simp at h; rw [h]
theorem keyJ_snoc (l : List Int) (m : Int) : keyJ l ++ itJ m ++ ⟨#[32]⟩ = keyJ (l ++ [m]) := by
  apply baJ_ext
  simp [keyJ, keyU, itJ]
theorem keyU_len : ∀ l : List Int, (keyU l).length ≤ 3 * l.length
  | [] => by simp [keyU]
  | m :: l => by
    have h1 := digsJ_len m.toNat
    have h2 := keyU_len l
    simp only [keyU, List.flatMap_cons, List.length_append, List.length_cons, List.length_nil] at h2 ⊢
    omega
theorem keyJ_size (l : List Int) : (keyJ l).size ≤ 3 * l.length := by
  have := keyU_len l
  simpa [keyJ, ByteArray.size] using this
def SmallL (l : List Int) : Prop := ∀ a ∈ l, 0 ≤ a ∧ a < 100
theorem keyU_inj : ∀ {l m : List Int}, SmallL l → SmallL m → keyU l = keyU m → l = m
  | [], [], _, _, _ => rfl
  | [], y :: m, _, _, h => by
    have := congrArg List.length h
    simp [keyU] at this
  | x :: l, [], _, _, h => by
    have := congrArg List.length h
    simp [keyU] at this
  | x :: l, y :: m, h1, h2, h => by
    obtain ⟨a0, a1⟩ := h1 x List.mem_cons_self
    obtain ⟨b0, b1⟩ := h2 y List.mem_cons_self
    simp only [keyU, List.flatMap_cons, List.append_assoc, List.singleton_append] at h
    obtain ⟨e1, e2⟩ := pln_split (digs_pln (show x.toNat < 100 by omega)) (digs_pln (show y.toNat < 100 by omega)) (show sepd (32 :: _) from Or.inl rfl) (show sepd (32 :: _) from Or.inl rfl) h
    injection e2 with _ e2
    have e3 := digs_inj (show x.toNat < 100 by omega) (show y.toNat < 100 by omega) e1
    rw [keyU_inj (fun z hz => h1 z (List.mem_cons_of_mem _ hz)) (fun z hz => h2 z (List.mem_cons_of_mem _ hz)) e2, show x = y by omega]
theorem keyJ_inj {l m : List Int} (h1 : SmallL l) (h2 : SmallL m) (h : keyJ l = keyJ m) : l = m := by
  apply keyU_inj h1 h2
  have := congrArg (fun b : ByteArray => b.data.toList) h
  simpa [keyJ] using this
theorem keys_mem {S : List (List Int)} (hS : ∀ m ∈ S, SmallL m) {l : List Int} (hl : SmallL l) : keyJ l ∈ S.map keyJ ↔ l ∈ S := by
  constructor
  · intro h
    obtain ⟨m, hm, e⟩ := List.mem_map.1 h
    rw [← keyJ_inj (hS m hm) hl e]; exact hm
  · exact fun h => List.mem_map_of_mem h
theorem idx_map {α β : Type} [BEq α] [LawfulBEq α] [DecidableEq β] (f : α → β) : ∀ {S : List α} {l : α}, l ∈ S → (∀ m ∈ S, f m = f l → m = l) → (S.map f).idxOf (f l) = S.idxOf l
  | [], _, h, _ => by cases h
  | m :: S, l, h, hi => by
    rw [List.map_cons, List.idxOf_cons, List.idxOf_cons]
    by_cases e : m = l
    · subst e; simp
    · have e2 : f m ≠ f l := fun q => e (hi m List.mem_cons_self q)
      have e3 : (f m == f l) = false := by simpa using e2
      have e4 : (m == l) = false := by simpa using e
      rw [e3, e4, cond_false, cond_false, idx_map f ((List.mem_cons.1 h).resolve_left (fun q => e q.symm)) fun x hx => hi x (List.mem_cons_of_mem _ hx)]
theorem keys_idx {S : List (List Int)} (hS : ∀ m ∈ S, SmallL m) {l : List Int} (hl : SmallL l) (h : l ∈ S) : numI (S.map keyJ) (keyJ l) = S.idxOf l := by
  unfold numI
  rw [if_pos (List.mem_map_of_mem h)]
  exact idx_map keyJ h fun m hm e => keyJ_inj (hS m hm) hl e
theorem leJ_str {a b : ByteArray} (h : a = b) : LeT (.v (.one (.c (.str a)))) (.v (.one (.c (.str b)))) := by subst h; exact .refl _
set_option maxHeartbeats 4000000 in
theorem key_c (l : List Int) (hl : l.length ≤ 1000) (hs : SmallL l) : Con Tryd.prog 42 [] [C1 (intsT l)] (Rv (.str (keyJ l))) [] := by
  refine con_of (c := _) Tryd.func42 rfl rfl rfl (by decide) fun w M0 H Z => ?_
  repeat' (first
   | refine gc_ rfl ?_
   | (refine g_region ?_; refine run_ th rfl ?_)
   | (refine g_drawC mix rfl rfl ?_; refine drun_ th rfl ?_)
   | (refine g_drawEC mix rfl rfl ?_; refine erun_ th rfl ?_)
   | refine SOps.nil ?_
   | refine DOps.nil ?_
   | refine EOps.nil ?_ rfl rfl
   | (refine s_split rfl rfl (fun hb => ?_) (fun hb => ?_) <;> (try simp only [hbL] at hb) <;> first | (exfalso; omega) | refine run_ th rfl ?_)
   | (refine d_split rfl rfl rfl (fun hb => ?_) (fun hb => ?_) <;> (try simp only [hbL] at hb) <;> first | (exfalso; omega) | refine drun_ th rfl ?_)
   | (refine g_if rfl (fun hb => ?_) (fun hb => ?_) <;> (try simp only [hbL] at hb) <;> (try (exfalso; omega))))
  refine g_loop1 (fun k : Nat => k ≤ l.length)
    (fun k => [(3, .v (C1 (.str (keyJ (l.take k))))), (6, .v (C1 (intsT l))), (7, .v (C1 (.int .i64 (l.length : Int)))), (8, .v (C1 (.int .i64 (k : Int))))])
    (fun _ => []) (fun k => l.length - k) 0 (Nat.zero_le _)
    (fun a w h => h.sub (by exact ⟨⟨_, rfl, leJ_str rfl⟩, ⟨_, rfl, .refl _⟩, ⟨_, rfl, le_int (by simp)⟩, ⟨_, rfl, le_int rfl⟩, trivial⟩) (by exact trivial) rfl rfl rfl) (fun k hk ih => ?_)
  by_cases hlt : k < l.length
  · have hx : (l.map fun r => [CT.int .i64 r])[k]? = some [.int .i64 l[k]] := by simp [hlt]
    obtain ⟨h0, h1⟩ := hs _ (List.getElem_mem hlt)
    have h2 := keyJ_size (l.take k)
    have h3 := itJ_size l[k]
    rw [List.length_take] at h2
    have hih := ih (k + 1) hlt (by omega)
    rw [List.take_succ_eq_append_getElem hlt, ← keyJ_snoc] at hih
    repeat' (first
     | refine gc_ rfl ?_
     | (refine g_region ?_; refine run_ th rfl ?_)
     | (refine g_drawC mix rfl rfl ?_; refine drun_ th rfl ?_)
     | (refine g_drawEC mix rfl rfl ?_; refine erun_ th rfl ?_)
     | refine SOps.nil ?_
     | refine DOps.nil ?_
     | refine EOps.nil ?_ rfl rfl
     | (refine s_split rfl rfl (fun hb => ?_) (fun hb => ?_) <;> (try simp only [hbL] at hb) <;> first | (exfalso; omega) | refine run_ th rfl ?_)
     | (refine d_split rfl rfl rfl (fun hb => ?_) (fun hb => ?_) <;> (try simp only [hbL] at hb) <;> first | (exfalso; omega) | refine drun_ th rfl ?_)
     | (refine g_if rfl (fun hb => ?_) (fun hb => ?_) <;> (try simp only [hbL] at hb) <;> (try (exfalso; omega)))
     | (refine s_idx th rfl rfl rfl rfl rfl rfl rfl rfl rfl k _ rfl hx ?_; refine run_ th rfl ?_)
     | (refine s_call (itoaJ_i l[k] h0 h1) [] rfl rfl rfl rfl rfl rfl rfl rfl rfl rfl ?_; refine run_ th rfl ?_)
     | (refine s_cat rfl rfl rfl rfl rfl rfl (by first | omega | (simp only [ByteArray.size_append, show (ByteArray.mk #[32]).size = 1 from rfl]; omega)) ?_; refine run_ th rfl ?_)
     | (refine s_add rfl rfl rfl rfl rfl rfl (by omega) ?_; refine run_ th rfl ?_))
    exact g_sub (by exact ⟨⟨_, rfl, .refl _⟩, ⟨_, rfl, .refl _⟩, ⟨_, rfl, .refl _⟩, ⟨_, rfl, le_int (by omega)⟩, trivial⟩) (by exact trivial) rfl rfl rfl hih
  · have hke : k = l.length := by omega
    subst hke
    rw [List.take_length]
    repeat' (first
     | refine gc_ rfl ?_
     | (refine g_region ?_; refine run_ th rfl ?_)
     | (refine g_drawC mix rfl rfl ?_; refine drun_ th rfl ?_)
     | (refine g_drawEC mix rfl rfl ?_; refine erun_ th rfl ?_)
     | refine SOps.nil ?_
     | refine DOps.nil ?_
     | refine EOps.nil ?_ rfl rfl
     | (refine s_split rfl rfl (fun hb => ?_) (fun hb => ?_) <;> (try simp only [hbL] at hb) <;> first | (exfalso; omega) | refine run_ th rfl ?_)
     | (refine d_split rfl rfl rfl (fun hb => ?_) (fun hb => ?_) <;> (try simp only [hbL] at hb) <;> first | (exfalso; omega) | refine drun_ th rfl ?_)
     | (refine g_if rfl (fun hb => ?_) (fun hb => ?_) <;> (try simp only [hbL] at hb) <;> (try (exfalso; omega)))
     | refine g_endL th Tryd.func42 (.inr ⟨_, rfl⟩) rfl rfl rfl ?_ rfl)
    all_goals exact .refl _
end Go.Sy
