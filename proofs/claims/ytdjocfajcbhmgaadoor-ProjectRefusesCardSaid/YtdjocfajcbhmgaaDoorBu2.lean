/- Contracts of the reference, bundle Bu2. -/
import Derived.Shelf.Strings.Cut
import Derived.Test.YtdjocfajcbhmgaaDoorLayp
import Derived.Test.YtdjocfajcbhmgaaDoorSy8
import Derived.Test.YtdjocfajcbhmgaaDoorBl1
import Derived.Test.YtdjocfajcbhmgaaDoorBu1
namespace Go.Proofs
open Go.Shelf Go.RowKit Go.Lib
variable {P : Program} {ρ : Ren}
set_option maxHeartbeats 2000000 in
set_option maxRecDepth 100000 in
theorem cut_one (L : Lays.n220 P ρ) (s : ByteArray) (hs : s.size ≤ 9223372036854775806) (c : UInt8) (w : World) :
    Calls P (ρ.f 220) #[.string s, .string ⟨#[c]⟩] w fun e w' => e = .returned (.tuple #[.string ⟨(Lib.cut s.data.toList [c]).1.toArray⟩, .string ⟨(Lib.cut s.data.toList [c]).2.1.toArray⟩, .bool (Lib.cut s.data.toList [c]).2.2]) ∧ ∃ n, w' = w.drewN n := by
  have hone : ∀ w, Calls P (ρ.f 219) #[.string s, .string ⟨#[c]⟩] w fun e w' => e = .returned (.int .i64 (Lib.index s.data.toList [c])) ∧ w' = w := fun w => by
    rw [Lib.index_one]; exact Any.stringslite_Index_one { L with } s c w
  rcases Lib.indexB_cases s ⟨#[c]⟩ with hix | ⟨i, hix, hroom⟩
  · obtain ⟨e1, e2, e3⟩ := Lib.cutB_miss s ⟨#[c]⟩ hix
    simp only at e1 e2 e3
    rw [e1, e2, e3]
    have t3 := L.t3; have t4 := L.t4; have t9 := L.t9
    have a3 : ∀ w, (isAgg (ρ.t 3)).run P w = .ok false w := run_isAgg_plain L.t3 rfl; have a4 : ∀ w, (isAgg (ρ.t 4)).run P w = .ok false w := run_isAgg_plain L.t4 rfl; have a9 : ∀ w, (isAgg (ρ.t 9)).run P w = .ok false w := run_isAgg_plain L.t9 rfl
    have e219 : ∀ args w, (callFunc (ρ.f 219) args).run P w = .ok (.enter (ρ.f 219) args) w := enters_of L.f219 (by kernel_rfl) rfl
    have mixed := L.mixed; have z3 := L.z3; have v3 := L.v3; have z4 := L.z4; have v4 := L.v4; have z9 := L.z9; have v9 := L.v9
    go_enter L.f220, Body.n220_ntmps ρ
    go_wp2_with (go_at_fn (ρ.f 219); refine (hone _).mono ?_; rintro e w' ⟨rfl, rfl⟩; rw [show Lib.index s.data.toList [c] = _ from hix])
    go_ret3
    exact ⟨rfl, 0, rfl⟩
  · obtain ⟨e1, e2, e3⟩ := Lib.cutB_hit s ⟨#[c]⟩ i hix
    simp only at e1 e2 e3
    rw [e1, e2, e3]
    have hsz : (⟨#[c]⟩ : ByteArray).size = 1 := rfl
    rw [hsz] at hroom ⊢
    have c1 : (0 : Int) ≤ ↑i := by omega
    have c2 : (↑i : Int) ≤ ↑s.size := by omega
    have c3 : (0 : Int) ≤ ↑i + 1 := by omega
    have c4 : (↑i + 1 : Int) ≤ ↑s.size := by omega
    have wr : IntKind.i64.wrap ((↑i : Int) + 1) = ↑i + 1 := by simp [IntKind.wrap, IntKind.bits, IntKind.signed]; omega
    have t3 := L.t3; have t4 := L.t4; have t9 := L.t9
    have a3 : ∀ w, (isAgg (ρ.t 3)).run P w = .ok false w := run_isAgg_plain L.t3 rfl; have a4 : ∀ w, (isAgg (ρ.t 4)).run P w = .ok false w := run_isAgg_plain L.t4 rfl; have a9 : ∀ w, (isAgg (ρ.t 9)).run P w = .ok false w := run_isAgg_plain L.t9 rfl
    have e219 : ∀ args w, (callFunc (ρ.f 219) args).run P w = .ok (.enter (ρ.f 219) args) w := enters_of L.f219 (by kernel_rfl) rfl
    have mixed := L.mixed; have z3 := L.z3; have v3 := L.v3; have z4 := L.z4; have v4 := L.v4; have z9 := L.z9; have v9 := L.v9
    go_enter L.f220, Body.n220_ntmps ρ
    go_wp2_with (go_at_fn (ρ.f 219); refine (hone _).mono ?_; rintro e w' ⟨rfl, rfl⟩; rw [show Lib.index s.data.toList [c] = _ from hix])
    go_region_o
    go_wp2
    go_ret3
    exact ⟨rfl, 1, rfl⟩
end Go.Proofs
set_option linter.unusedSimpArgs false
set_option linter.unusedVariables false
set_option linter.unusedSectionVars false
namespace Go.Sy
open Go.Proofs
set_option maxRecDepth 100000
attribute [local irreducible] SOps Goes DOps EOps
abbrev dotS : ByteArray := ⟨#[46]⟩
def cutHd (s : ByteArray) : ByteArray := ⟨(Lib.cut s.data.toList [46]).1.toArray⟩
def cutTl (s : ByteArray) : ByteArray := ⟨(Lib.cut s.data.toList [46]).2.1.toArray⟩
def cutOk (s : ByteArray) : Bool := (Lib.cut s.data.toList [46]).2.2
abbrev cutR (s : ByteArray) : ST := .tup [.one (.c (.str (cutHd s))), .one (.c (.str (cutTl s))), .one (.c (.bool (cutOk s)))]
theorem cutI_c (s : ByteArray) (hs : s.size ≤ 9223372036854775806) : Con Tryd.prog 110 [] [C1 (.str s), C1 (.str dotS)] (cutR s) [] := by
  refine ⟨callOK (c := _) Tryd.func110 rfl rfl, fun w M0 H Z vs hpre hargs => ?_⟩
  obtain ⟨v, u, rfl⟩ : ∃ v u, vs = [v, u] := by
    match vs, hargs.1 with
    | [v, u], _ => exact ⟨v, u, rfl⟩
  obtain ⟨v', hv', hr⟩ := hargs.2 0 _ rfl
  obtain ⟨u', hu', hq⟩ := hargs.2 1 _ rfl
  simp only [List.getElem?_cons_zero, List.getElem?_cons_succ, Option.some.injEq] at hv' hu'
  subst hv'; subst hu'
  have hv : v = .string s := RepC.str_inv hr
  have hu : u = .string dotS := RepC.str_inv hq
  subst hv; subst hu
  refine Calls.mono (cut_one Tryd.laysCut s hs 46 w) ?_
  rintro e w' ⟨rfl, n, rfl⟩
  refine ⟨_, rfl, ⟨rfl, rfl, rfl, Nat.le_refl _, fun _ _ _ => rfl⟩, fun p hp => by simp [preMM] at hp, _, rfl, rfl, fun j c hc => ?_⟩
  match j, hc with
  | 0, hc => simp at hc; subst hc; exact ⟨_, rfl, RepC.str _⟩
  | 1, hc => simp at hc; subst hc; exact ⟨_, rfl, RepC.str _⟩
  | 2, hc => simp at hc; subst hc; exact ⟨_, rfl, RepC.bool _⟩
  | j + 3, hc => simp at hc
theorem cut_c (s : ByteArray) (hs : s.size ≤ 9223372036854775806) : Con Tryd.prog 83 [] [C1 (.str s), C1 (.str dotS)] (cutR s) [] := by
  refine con_of (c := _) Tryd.func83 rfl rfl rfl (by decide) fun w M0 H Z => ?_
  repeat' (first
   | refine gc_ rfl ?_
   | (refine g_region ?_; refine run_ th rfl ?_)
   | (refine g_drawC mix rfl rfl ?_; refine drun_ th rfl ?_)
   | (refine g_drawEC mix rfl rfl ?_; refine erun_ th rfl ?_)
   | refine SOps.nil ?_
   | refine DOps.nil ?_
   | refine EOps.nil ?_ rfl rfl
   | (refine s_split rfl rfl (fun hb => ?_) (fun hb => ?_) <;> (try simp only [hbL] at hb) <;> first | (exfalso; omega) | refine run_ th rfl ?_)
   | (refine d_split rfl rfl rfl (fun hb => ?_) (fun hb => ?_) <;> (try simp only [hbL] at hb) <;> first | (exfalso; omega) | refine drun_ th rfl ?_)
   | (refine g_if rfl (fun hb => ?_) (fun hb => ?_) <;> (try simp only [hbL] at hb) <;> (try (exfalso; omega)))
   | refine g_endL th Tryd.func83 (.inr ⟨_, rfl⟩) rfl rfl rfl ?_ rfl
   | (refine s_call (cutI_c s hs) [] rfl rfl rfl rfl rfl rfl rfl rfl rfl rfl ?_; refine run_ th rfl ?_))
  all_goals exact .refl _
theorem cut_B : ∀ l : List UInt8, Lib.cut l [46] = (match cutB l with
  | none => (l, [], false)
  | some (a, b) => (a, b, true))
  | [] => by simp [Lib.cut, Lib.index_one, Lib.indexByte, cutB]
  | c :: l => by
    have ih := cut_B l
    have hge := Lib.indexByte_ge l 46
    unfold Lib.cut at ih ⊢
    rw [Lib.index_one] at ih ⊢
    rw [Lib.indexByte, cutB]
    by_cases hc : c = 46
    · subst hc; simp
    · have hb : (c == 46) = false := by simpa using hc
      rw [if_neg hc, hb]
      simp only [Bool.false_eq_true, if_false]
      cases hq : cutB l with
      | none =>
        rw [hq] at ih
        by_cases hi : 0 ≤ Lib.indexByte l 46
        · rw [if_pos hi] at ih; simp at ih
        · have : Lib.indexByte l 46 = -1 := by omega
          simp [this]
      | some p =>
        obtain ⟨a, b⟩ := p
        rw [hq] at ih
        by_cases hi : 0 ≤ Lib.indexByte l 46
        · rw [if_pos hi] at ih
          have hn : (Lib.indexByte l 46 == -1) = false := by simp; omega
          simp only [hn, Bool.false_eq_true, if_false, Option.map_some]
          rw [if_pos (by omega)]
          simp only [Prod.mk.injEq, and_true] at ih ⊢
          have h1 : (Lib.indexByte l 46 + 1).toNat = (Lib.indexByte l 46).toNat + 1 := by omega
          rw [h1, List.take_succ_cons, ih.1]
          refine ⟨rfl, ?_⟩
          show List.drop ((Lib.indexByte l 46).toNat + 1 + 1) (c :: l) = b
          rw [List.drop_succ_cons]
          exact ih.2
        · rw [if_neg hi] at ih; simp at ih
theorem type_cut (s : ByteArray) : typeB s = (nameB (cutHd s) && (!cutOk s || nameB (cutTl s))) := by
  unfold typeB cutHd cutTl cutOk
  rw [cut_B]
  cases cutB s.data.toList with
  | none => simp
  | some p => simp
end Go.Sy
namespace Go.Sy
open Go.Proofs
set_option maxRecDepth 100000
attribute [local irreducible] SOps Goes DOps EOps
theorem carB_chan (name : ByteArray) : carB 5 name = typeB name := by simp [carB]
theorem carB_data {k : Int} (name : ByteArray) (h0 : 0 ≤ k) (h5 : k < 5) : carB k name = decide (name = ⟨#[]⟩) := by
  unfold carB
  rw [if_neg (by omega)]
  simp [h0, h5]
theorem carB_no {k : Int} (name : ByteArray) (h : k < 0 ∨ 5 < k) : carB k name = false := by
  unfold carB
  rw [if_neg (by omega)]
  rcases h with h | h
  · simp; omega
  · simp; omega
set_option maxHeartbeats 4000000 in
theorem carries_c (k : Int) (name : ByteArray) (hs : name.size ≤ 9223372036854775806) : Con Tryd.prog 67 [] [Ag [.int .i64 k, .str name]] (Rv (.bool (carB k name))) [] := by
  refine con_of (c := _) Tryd.func67 rfl rfl rfl (by decide) fun w M0 H Z => ?_
  repeat' (first
   | refine gc_ rfl ?_
   | (refine g_region ?_; refine run_ th rfl ?_)
   | (refine g_drawC mix rfl rfl ?_; refine drun_ th rfl ?_)
   | (refine g_drawEC mix rfl rfl ?_; refine erun_ th rfl ?_)
   | refine SOps.nil ?_
   | refine DOps.nil ?_
   | refine EOps.nil ?_ rfl rfl
   | (refine s_split rfl rfl (fun hb => ?_) (fun hb => ?_) <;> (try simp only [hbL] at hb) <;> first | (exfalso; omega) | refine run_ th rfl ?_)
   | (refine d_split rfl rfl rfl (fun hb => ?_) (fun hb => ?_) <;> (try simp only [hbL] at hb) <;> first | (exfalso; omega) | refine drun_ th rfl ?_)
   | (refine g_if rfl (fun hb => ?_) (fun hb => ?_) <;> (try simp only [hbL] at hb) <;> (try (exfalso; omega)))
   | refine g_endL th Tryd.func67 (.inr ⟨_, rfl⟩) rfl rfl rfl ?_ rfl
   | (refine s_call (cut_c name hs) [] rfl rfl rfl rfl rfl rfl rfl rfl rfl rfl ?_; refine run_ th rfl ?_)
   | (refine s_call (may_c (cutHd name)) [] rfl rfl rfl rfl rfl rfl rfl rfl rfl rfl ?_; refine run_ th rfl ?_)
   | (refine s_call (may_c (cutTl name)) [] rfl rfl rfl rfl rfl rfl rfl rfl rfl rfl ?_; refine run_ th rfl ?_))
  all_goals first
    | exact le_ct (by rw [carB_no name (by omega)])
    | exact le_ct (by rw [carB_data name (by omega) (by omega)])
    | exact le_ct (by rw [show k = 5 by assumption, carB_chan, type_cut]; simp [*])
def armsM (n : Int) (l : List Arm) : Bool := l.all (armB n) && decide ((l.map Arm.label).Nodup)
theorem armsM_snoc (n : Int) (l : List Arm) (a : Arm) : armsM n (l ++ [a]) = (armsM n l && (armB n a && !memB (l.map Arm.label) a.label)) := by
  unfold armsM
  rw [List.all_append, List.map_append]
  simp only [List.all_cons, List.all_nil, Bool.and_true, List.map_cons, List.map_nil]
  have hd : ((l.map Arm.label) ++ [a.label]).Nodup ↔ (l.map Arm.label).Nodup ∧ a.label ∉ l.map Arm.label := by
    rw [List.nodup_append]
    constructor
    · rintro ⟨h1, _, h3⟩
      exact ⟨h1, fun h => h3 _ h _ (by simp) rfl⟩
    · rintro ⟨h1, h2⟩
      exact ⟨h1, by simp, fun x hx y hy e => by simp at hy; subst hy; exact h2 (e ▸ hx)⟩
  have hq : decide (((l.map Arm.label) ++ [a.label]).Nodup) = (decide ((l.map Arm.label).Nodup) && !memB (l.map Arm.label) a.label) := by
    by_cases h : a.label ∈ l.map Arm.label
    · have hm : memB (l.map Arm.label) a.label = true := by simpa [memB] using h
      rw [hm, decide_eq_false fun hn => (hd.1 hn).2 h]; simp
    · have hm : memB (l.map Arm.label) a.label = false := by simpa [memB] using h
      rw [hm, Bool.not_false, Bool.and_true]
      exact decide_eq_decide.2 ⟨fun hn => (hd.1 hn).1, fun hn => hd.2 ⟨hn, h⟩⟩
  rw [hq]
  cases l.all (armB n) <;> cases armB n a <;> cases memB (l.map Arm.label) a.label <;> simp
theorem armsM_false {n : Int} {l : List Arm} {i : Nat} (hi : i < l.length) (ht : armsM n (l.take (i + 1)) = false) : armsM n l = false := by
  cases h : armsM n l with
  | false => rfl
  | true =>
    unfold armsM at h ht
    simp only [Bool.and_eq_true, decide_eq_true_eq] at h
    have h1 : (l.take (i + 1)).all (armB n) = true := List.all_eq_true.2 fun x hx => List.all_eq_true.1 h.1 x (List.mem_of_mem_take hx)
    have h2 : ((l.take (i + 1)).map Arm.label).Nodup := by rw [List.map_take]; exact (List.take_sublist _ _).nodup h.2
    rw [h1, decide_eq_true h2] at ht; cases ht
theorem le_mpo {a b : List (FV × FV)} (h : a = b) : LeM (.mpo a) (.mpo b) := by subst h; exact .refl _
theorem notMem_of {α : Type} [DecidableEq α] {l : List α} {a : α} (h : memB l a = false) : a ∉ l := by simpa [memB] using h
theorem armsOK_M (n : Int) (l : List Arm) : armsOK n l = (decide (1 ≤ l.length) && (decide (l.length ≤ 6) && armsM n l)) := rfl
set_option maxHeartbeats 8000000 in
theorem arms_c (l : List Arm) (n : Int) (hs : ∀ a ∈ l, a.name.size ≤ 9223372036854775806) : Con Tryd.prog 53 [] [C1 (armsC l), C1 (.int .i64 n)] (Rv (.bool (armsOK n l))) [] := by
  refine con_of (c := _) Tryd.func53 rfl rfl rfl (by decide) fun w M0 H Z => ?_
  refine g_len 0 rfl fun hll => ?_
  simp only [List.length_map] at hll
  repeat' (first
   | refine gc_ rfl ?_
   | (refine g_region ?_; refine run_ th rfl ?_)
   | (refine g_drawC mix rfl rfl ?_; refine drun_ th rfl ?_)
   | (refine g_drawEC mix rfl rfl ?_; refine erun_ th rfl ?_)
   | refine SOps.nil ?_
   | refine DOps.nil ?_
   | refine EOps.nil ?_ rfl rfl
   | (refine s_split rfl rfl (fun hb => ?_) (fun hb => ?_) <;> (try simp only [hbL] at hb) <;> first | (exfalso; omega) | refine run_ th rfl ?_)
   | (refine d_split rfl rfl rfl (fun hb => ?_) (fun hb => ?_) <;> (try simp only [hbL] at hb) <;> first | (exfalso; omega) | refine drun_ th rfl ?_)
   | (refine g_if rfl (fun hb => ?_) (fun hb => ?_) <;> (try simp only [hbL] at hb) <;> (try (exfalso; omega)))
   | refine g_endL th Tryd.func53 (.inr ⟨_, rfl⟩) rfl rfl rfl ?_ rfl)
  · exact le_ct (by rw [armsOK_M]; simp; omega)
  · exact le_ct (by rw [armsOK_M]; simp; omega)
  refine g_loop1 (fun i : Nat => i ≤ l.length ∧ armsM n (l.take i) = true)
    (fun i => [(0, .v (C1 (armsC l))), (1, .v (C1 (.int .i64 n))), (5, .v (.one (.mp 16))), (17, .v (C1 (armsC l))), (18, .v (C1 (.int .i64 (l.length : Int)))), (19, .v (C1 (.int .i64 (i : Int))))])
    (fun i => [(16, .mpo (entF strF (setK ((l.take i).map Arm.label))))])
    (fun i => l.length - i) 0 ⟨Nat.zero_le _, rfl⟩
    (fun a w h => h.sub (by exact ⟨⟨_, rfl, .refl _⟩, ⟨_, rfl, .refl _⟩, ⟨_, rfl, .refl _⟩, ⟨_, rfl, .refl _⟩, ⟨_, rfl, le_int (by simp)⟩, ⟨_, rfl, le_int rfl⟩, trivial⟩) (by exact ⟨⟨_, rfl, .refl _⟩, trivial⟩) rfl rfl rfl) (fun i hi ih => ?_)
  obtain ⟨hi, hok⟩ := hi
  by_cases hlt : i < l.length
  · have hx : (l.map Arm.cs)[i]? = some (l[i]).cs := by simp [hlt]
    have hsi := hs l[i] (List.getElem_mem hlt)
    have hst : armsM n (l.take (i + 1)) = (armB n l[i] && !memB ((l.take i).map Arm.label) l[i].label) := by
      rw [List.take_succ_eq_append_getElem hlt, armsM_snoc, hok, Bool.true_and]
    have hno : armsM n (l.take (i + 1)) = false → armsOK n l = false := fun h => by rw [armsOK_M, armsM_false hlt h]; simp
    have hlook : lookC (setK ((l.take i).map Arm.label)) l[i].label (.bool false) = .bool (memB ((l.take i).map Arm.label) l[i].label) := setK_look _ _
    obtain ⟨mb, hmb⟩ : ∃ mb, memB ((l.take i).map Arm.label) l[i].label = mb := ⟨_, rfl⟩
    rw [hmb] at hst hlook
    repeat' (first
     | refine gc_ rfl ?_
     | (refine g_region ?_; refine run_ th rfl ?_)
     | (refine g_drawC mix rfl rfl ?_; refine drun_ th rfl ?_)
     | (refine g_drawEC mix rfl rfl ?_; refine erun_ th rfl ?_)
     | refine SOps.nil ?_
     | refine DOps.nil ?_
     | refine EOps.nil ?_ rfl rfl
     | (refine s_split rfl rfl (fun hb => ?_) (fun hb => ?_) <;> (try simp only [hbL] at hb) <;> first | (exfalso; omega) | refine run_ th rfl ?_)
     | (refine d_split rfl rfl rfl (fun hb => ?_) (fun hb => ?_) <;> (try simp only [hbL] at hb) <;> first | (exfalso; omega) | refine drun_ th rfl ?_)
     | (refine g_if rfl (fun hb => ?_) (fun hb => ?_) <;> (try simp only [hbL] at hb) <;> (try (exfalso; omega)))
     | refine g_endL th Tryd.func53 (.inr ⟨_, rfl⟩) rfl rfl rfl ?_ rfl
     | (refine s_idx th rfl rfl rfl rfl rfl rfl rfl rfl rfl i _ rfl hx ?_; refine run_ th rfl ?_)
     | (refine s_call (may_c l[i].label) [] rfl rfl rfl rfl rfl rfl rfl rfl rfl rfl ?_; refine run_ th rfl ?_)
     | (refine s_call (carries_c l[i].kind l[i].name hsi) [] rfl rfl rfl rfl rfl rfl rfl rfl rfl rfl ?_; refine run_ th rfl ?_)
     | (refine s_lookS th (m := setK ((l.take i).map Arm.label)) rfl rfl rfl rfl rfl rfl rfl rfl rfl rfl rfl rfl ?_; rw [hlook]; refine run_ th rfl ?_)
     | (refine s_putS th (m := setK ((l.take i).map Arm.label)) (.inl rfl) rfl rfl rfl rfl rfl rfl rfl rfl ?_; refine run_ th rfl ?_)
     | (refine s_add rfl rfl rfl rfl rfl rfl (by omega) ?_; refine run_ th rfl ?_))
    all_goals first
      | exact le_ct (by rw [hno (by rw [hst]; simp [armB, *] <;> omega)])
      | (have hih := ih (i + 1) ⟨hlt, by rw [hst]; simp [armB, *] <;> omega⟩ (by omega)
         exact g_sub (by exact ⟨⟨_, rfl, .refl _⟩, ⟨_, rfl, .refl _⟩, ⟨_, rfl, .refl _⟩, ⟨_, rfl, .refl _⟩, ⟨_, rfl, .refl _⟩, ⟨_, rfl, le_int (by omega)⟩, trivial⟩)
           (by exact ⟨⟨_, rfl, le_mpo (by rw [setK_put (notMem_of (hmb.trans (by assumption))), List.take_succ_eq_append_getElem hlt, List.map_append]; rfl)⟩, trivial⟩) rfl rfl rfl hih)
  · have hke : i = l.length := by omega
    subst hke
    rw [List.take_length] at hok
    repeat' (first
     | refine gc_ rfl ?_
     | (refine g_region ?_; refine run_ th rfl ?_)
     | (refine g_drawC mix rfl rfl ?_; refine drun_ th rfl ?_)
     | (refine g_drawEC mix rfl rfl ?_; refine erun_ th rfl ?_)
     | refine SOps.nil ?_
     | refine DOps.nil ?_
     | refine EOps.nil ?_ rfl rfl
     | (refine s_split rfl rfl (fun hb => ?_) (fun hb => ?_) <;> (try simp only [hbL] at hb) <;> first | (exfalso; omega) | refine run_ th rfl ?_)
     | (refine d_split rfl rfl rfl (fun hb => ?_) (fun hb => ?_) <;> (try simp only [hbL] at hb) <;> first | (exfalso; omega) | refine drun_ th rfl ?_)
     | (refine g_if rfl (fun hb => ?_) (fun hb => ?_) <;> (try simp only [hbL] at hb) <;> (try (exfalso; omega)))
     | refine g_endL th Tryd.func53 (.inr ⟨_, rfl⟩) rfl rfl rfl ?_ rfl)
    exact le_ct (by rw [armsOK_M, hok]; simp; omega)
end Go.Sy
namespace Go.Sy
open Go.Proofs
set_option maxRecDepth 100000
attribute [local irreducible] SOps Goes DOps EOps
abbrev bigS : Nat := 9223372036854775806
def ArmsBig (l : List Arm) : Prop := ∀ a ∈ l, a.name.size ≤ bigS
def LocBig (l : Loc) : Prop := ∀ t ∈ l.turns, ArmsBig t.arms
theorem isEmpty_len {α : Type} (l : List α) : l.isEmpty = !decide ((0 : Int) < (l.length : Int)) := by cases l <;> simp <;> omega
def turnsM (n : Int) (l : List Trn) : Bool := l.all (trnB n)
theorem turnsM_snoc {n : Int} {l : List Trn} {i : Nat} (hlt : i < l.length) (hok : turnsM n (l.take i) = true) : turnsM n (l.take (i + 1)) = trnB n l[i] := by
  unfold turnsM at *
  rw [List.take_succ_eq_append_getElem hlt, List.all_append, hok]; simp
theorem turnsM_false {n : Int} {l : List Trn} {i : Nat} (hi : i < l.length) (ht : trnB n l[i] = false) : turnsM n l = false :=
  List.all_eq_false.2 ⟨l[i], List.getElem_mem hi, by rw [ht]; decide⟩
theorem locB_M (l : Loc) : locB l = (decide (1 ≤ l.turns.length) && (decide (l.turns.length ≤ 40) && turnsM l.turns.length l.turns)) := rfl
theorem trn_end {n : Int} {t : Trn} (h : t.kind = 0) : trnB n t = (decide (t.peer = ⟨#[]⟩) && t.arms.isEmpty) := by unfold trnB; rw [if_pos h]
theorem trn_act {n : Int} {t : Trn} (h0 : t.kind ≠ 0) (h : t.kind = 1 ∨ t.kind = 2) : trnB n t = (nameB t.peer && armsOK n t.arms) := by unfold trnB; rw [if_neg h0, if_pos h]
theorem trn_bad {n : Int} {t : Trn} (h0 : t.kind ≠ 0) (h : ¬ (t.kind = 1 ∨ t.kind = 2)) : trnB n t = false := by unfold trnB; rw [if_neg h0, if_neg h]
set_option maxHeartbeats 8000000 in
theorem tmay_c (l : Loc) (hs : LocBig l) : Con Tryd.prog 37 [] [Ag l.cs] (Rv (.bool (locB l))) [] := by
  refine con_of (c := _) Tryd.func37 rfl rfl rfl (by decide) fun w M0 H Z => ?_
  repeat' (first
   | (refine g_lenB 1 1 rfl rfl fun hll => ?_; simp only [List.length_map] at hll; refine g_region ?_; refine run_ th rfl ?_)
   | refine gc_ rfl ?_
   | (refine g_region ?_; refine run_ th rfl ?_)
   | (refine g_drawC mix rfl rfl ?_; refine drun_ th rfl ?_)
   | (refine g_drawEC mix rfl rfl ?_; refine erun_ th rfl ?_)
   | refine SOps.nil ?_
   | refine DOps.nil ?_
   | refine EOps.nil ?_ rfl rfl
   | (refine s_split rfl rfl (fun hb => ?_) (fun hb => ?_) <;> (try simp only [hbL] at hb) <;> first | (exfalso; omega) | refine run_ th rfl ?_)
   | (refine d_split rfl rfl rfl (fun hb => ?_) (fun hb => ?_) <;> (try simp only [hbL] at hb) <;> first | (exfalso; omega) | refine drun_ th rfl ?_)
   | (refine g_if rfl (fun hb => ?_) (fun hb => ?_) <;> (try simp only [hbL] at hb) <;> (try (exfalso; omega)))
   | refine g_endL th Tryd.func37 (.inr ⟨_, rfl⟩) rfl rfl rfl ?_ rfl)
  · exact le_ct (by rw [locB_M]; simp; omega)
  · exact le_ct (by rw [locB_M]; simp; omega)
  refine g_loop1 (fun i : Nat => i ≤ l.turns.length ∧ turnsM l.turns.length (l.turns.take i) = true)
    (fun i => [(1, .v (.one (.ptr 1 0))), (16, .v (C1 (turnsC l.turns))), (17, .v (C1 (.int .i64 (l.turns.length : Int)))), (18, .v (C1 (.int .i64 (i : Int))))])
    (fun i => [(1, .box (l.cs.map SC.c))])
    (fun i => l.turns.length - i) 0 ⟨Nat.zero_le _, rfl⟩
    (fun a w h => h.sub (by exact ⟨⟨_, rfl, .refl _⟩, ⟨_, rfl, .refl _⟩, ⟨_, rfl, le_int (by simp)⟩, ⟨_, rfl, le_int rfl⟩, trivial⟩) (by exact ⟨⟨_, rfl, .refl _⟩, trivial⟩) rfl rfl rfl) (fun i hi ih => ?_)
  obtain ⟨hi, hok⟩ := hi
  by_cases hlt : i < l.turns.length
  · have hx : (l.turns.map Trn.cs)[i]? = some (l.turns[i]).cs := by simp [hlt]
    have hsi := hs l.turns[i] (List.getElem_mem hlt)
    have hst := turnsM_snoc hlt hok
    have hno : trnB l.turns.length l.turns[i] = false → locB l = false := fun h => by rw [locB_M, turnsM_false hlt h]; simp
    repeat' (first
     | refine gc_ rfl ?_
     | (refine g_region ?_; refine run_ th rfl ?_)
     | (refine g_drawC mix rfl rfl ?_; refine drun_ th rfl ?_)
     | (refine g_drawEC mix rfl rfl ?_; refine erun_ th rfl ?_)
     | refine SOps.nil ?_
     | refine DOps.nil ?_
     | refine EOps.nil ?_ rfl rfl
     | (refine s_split rfl rfl (fun hb => ?_) (fun hb => ?_) <;> (try simp only [hbL] at hb) <;> first | (exfalso; omega) | refine run_ th rfl ?_)
     | (refine d_split rfl rfl rfl (fun hb => ?_) (fun hb => ?_) <;> (try simp only [hbL] at hb) <;> first | (exfalso; omega) | refine drun_ th rfl ?_)
     | (refine g_if rfl (fun hb => ?_) (fun hb => ?_) <;> (try simp only [hbL] at hb) <;> (try (exfalso; omega)))
     | refine g_endL th Tryd.func37 (.inr ⟨_, rfl⟩) rfl rfl rfl ?_ rfl
     | (refine s_idx th rfl rfl rfl rfl rfl rfl rfl rfl rfl i _ rfl hx ?_; refine run_ th rfl ?_)
     | (refine s_call (may_c l.turns[i].peer) [] rfl rfl rfl rfl rfl rfl rfl rfl rfl rfl ?_; refine run_ th rfl ?_)
     | (refine s_call (arms_c l.turns[i].arms ((l.turns.map Trn.cs).length : Int) hsi) [] rfl rfl rfl rfl rfl rfl rfl rfl rfl rfl ?_; refine run_ th rfl ?_)
     | (refine s_add rfl rfl rfl rfl rfl rfl (by omega) ?_; refine run_ th rfl ?_))
    all_goals first
      | exact le_ct (by rw [hno (by rw [trn_end (by assumption), decide_eq_false (by assumption)]; rfl)])
      | exact le_ct (by rw [hno (by rw [trn_end (by assumption), isEmpty_len, decide_eq_true (p := (0 : Int) < _) (by assumption)]; simp)])
      | exact le_ct (by rw [hno (by rw [trn_act (by omega) (by omega)]; simp [*])])
      | exact le_ct (by rw [hno (trn_bad (by omega) (by omega))])
      | (have hih := ih (i + 1) ⟨hlt, by rw [hst]; first
          | (rw [trn_end (by assumption), isEmpty_len, decide_eq_false (p := (0 : Int) < _) (by assumption), decide_eq_true (by assumption)]; rfl)
          | (rw [trn_act (by omega) (by omega)]; simp [*]; done)⟩ (by omega)
         exact g_sub (by exact ⟨⟨_, rfl, .refl _⟩, ⟨_, rfl, .refl _⟩, ⟨_, rfl, .refl _⟩, ⟨_, rfl, le_int (by omega)⟩, trivial⟩) (by exact ⟨⟨_, rfl, .refl _⟩, trivial⟩) rfl rfl rfl hih)
  · have hke : i = l.turns.length := by omega
    subst hke
    rw [List.take_length] at hok
    repeat' (first
     | refine gc_ rfl ?_
     | (refine g_region ?_; refine run_ th rfl ?_)
     | (refine g_drawC mix rfl rfl ?_; refine drun_ th rfl ?_)
     | (refine g_drawEC mix rfl rfl ?_; refine erun_ th rfl ?_)
     | refine SOps.nil ?_
     | refine DOps.nil ?_
     | refine EOps.nil ?_ rfl rfl
     | (refine s_split rfl rfl (fun hb => ?_) (fun hb => ?_) <;> (try simp only [hbL] at hb) <;> first | (exfalso; omega) | refine run_ th rfl ?_)
     | (refine d_split rfl rfl rfl (fun hb => ?_) (fun hb => ?_) <;> (try simp only [hbL] at hb) <;> first | (exfalso; omega) | refine drun_ th rfl ?_)
     | (refine g_if rfl (fun hb => ?_) (fun hb => ?_) <;> (try simp only [hbL] at hb) <;> (try (exfalso; omega)))
     | refine g_endL th Tryd.func37 (.inr ⟨_, rfl⟩) rfl rfl rfl ?_ rfl)
    exact le_ct (by rw [locB_M, hok]; simp; omega)
end Go.Sy
