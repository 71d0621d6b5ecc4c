/- Contracts: strings.Cut at a dot. -/
import Derived.Shelf.Strings.Cut
import Derived.Test.YtadimhaolhpglaaLayp
import Derived.Test.YtadimhaolhpglaaSy8
import Derived.Test.YtadimhaolhpglaaLa
namespace Go.Proofs
open Go.Shelf Go.RowKit Go.Lib
variable {P : Program} {ρ : Ren}

set_option maxHeartbeats 2000000 in
set_option maxRecDepth 100000 in
/-- internal/stringslite.Cut at a separator of one byte: no bound on the text. -/
theorem cut_one (L : Lays.n220 P ρ) (s : ByteArray) (hs : s.size ≤ 9223372036854775806) (c : UInt8) (w : World) :
    Calls P (ρ.f 220) #[.string s, .string ⟨#[c]⟩] w fun e w' => e = .returned (.tuple #[.string ⟨(Lib.cut s.data.toList [c]).1.toArray⟩, .string ⟨(Lib.cut s.data.toList [c]).2.1.toArray⟩, .bool (Lib.cut s.data.toList [c]).2.2]) ∧ ∃ n, w' = w.drewN n := by
  have hone : ∀ w, Calls P (ρ.f 219) #[.string s, .string ⟨#[c]⟩] w fun e w' => e = .returned (.int .i64 (Lib.index s.data.toList [c])) ∧ w' = w := fun w => by
    rw [Lib.index_one]; exact Any.stringslite_Index_one { L with } s c w
  rcases Lib.indexB_cases s ⟨#[c]⟩ with hix | ⟨i, hix, hroom⟩
  · obtain ⟨e1, e2, e3⟩ := Lib.cutB_miss s ⟨#[c]⟩ hix
    simp only at e1 e2 e3
    rw [e1, e2, e3]
    have t3 := L.t3; have t4 := L.t4; have t9 := L.t9
    have a3 : ∀ w, (isAgg (ρ.t 3)).run P w = .ok false w := run_isAgg_plain L.t3 rfl; have a4 : ∀ w, (isAgg (ρ.t 4)).run P w = .ok false w := run_isAgg_plain L.t4 rfl; have a9 : ∀ w, (isAgg (ρ.t 9)).run P w = .ok false w := run_isAgg_plain L.t9 rfl
    have e219 : ∀ args w, (callFunc (ρ.f 219) args).run P w = .ok (.enter (ρ.f 219) args) w := enters_of L.f219 (by kernel_rfl) rfl
    have mixed := L.mixed; have z3 := L.z3; have v3 := L.v3; have z4 := L.z4; have v4 := L.v4; have z9 := L.z9; have v9 := L.v9
    go_enter L.f220, Body.n220_ntmps ρ
    go_wp2_with (go_at_fn (ρ.f 219); refine (hone _).mono ?_; rintro e w' ⟨rfl, rfl⟩; rw [show Lib.index s.data.toList [c] = _ from hix])
    go_ret3
    exact ⟨rfl, 0, rfl⟩
  · obtain ⟨e1, e2, e3⟩ := Lib.cutB_hit s ⟨#[c]⟩ i hix
    simp only at e1 e2 e3
    rw [e1, e2, e3]
    have hsz : (⟨#[c]⟩ : ByteArray).size = 1 := rfl
    rw [hsz] at hroom ⊢
    have c1 : (0 : Int) ≤ ↑i := by omega
    have c2 : (↑i : Int) ≤ ↑s.size := by omega
    have c3 : (0 : Int) ≤ ↑i + 1 := by omega
    have c4 : (↑i + 1 : Int) ≤ ↑s.size := by omega
    have wr : IntKind.i64.wrap ((↑i : Int) + 1) = ↑i + 1 := by simp [IntKind.wrap, IntKind.bits, IntKind.signed]; omega
    have t3 := L.t3; have t4 := L.t4; have t9 := L.t9
    have a3 : ∀ w, (isAgg (ρ.t 3)).run P w = .ok false w := run_isAgg_plain L.t3 rfl; have a4 : ∀ w, (isAgg (ρ.t 4)).run P w = .ok false w := run_isAgg_plain L.t4 rfl; have a9 : ∀ w, (isAgg (ρ.t 9)).run P w = .ok false w := run_isAgg_plain L.t9 rfl
    have e219 : ∀ args w, (callFunc (ρ.f 219) args).run P w = .ok (.enter (ρ.f 219) args) w := enters_of L.f219 (by kernel_rfl) rfl
    have mixed := L.mixed; have z3 := L.z3; have v3 := L.v3; have z4 := L.z4; have v4 := L.v4; have z9 := L.z9; have v9 := L.v9
    go_enter L.f220, Body.n220_ntmps ρ
    go_wp2_with (go_at_fn (ρ.f 219); refine (hone _).mono ?_; rintro e w' ⟨rfl, rfl⟩; rw [show Lib.index s.data.toList [c] = _ from hix])
    go_region_o
    go_wp2
    go_ret3
    exact ⟨rfl, 1, rfl⟩
end Go.Proofs
set_option linter.unusedSimpArgs false
set_option linter.unusedVariables false
set_option linter.unusedSectionVars false
namespace Go.Sy
open Go.Proofs
set_option maxRecDepth 100000
attribute [local irreducible] SOps Goes DOps EOps

abbrev dotS : ByteArray := ⟨#[46]⟩
def cutHd (s : ByteArray) : ByteArray := ⟨(Lib.cut s.data.toList [46]).1.toArray⟩
def cutTl (s : ByteArray) : ByteArray := ⟨(Lib.cut s.data.toList [46]).2.1.toArray⟩
def cutOk (s : ByteArray) : Bool := (Lib.cut s.data.toList [46]).2.2
abbrev cutR (s : ByteArray) : ST := .tup [.one (.c (.str (cutHd s))), .one (.c (.str (cutTl s))), .one (.c (.bool (cutOk s)))]

/-- A contract of a function of texts that changes nothing but the count of draws. -/
theorem cutI_c (s : ByteArray) (hs : s.size ≤ 9223372036854775806) : Con Try.prog 120 [] [C1 (.str s), C1 (.str dotS)] (cutR s) [] := by
  refine ⟨callOK (c := _) Try.func120 rfl rfl, fun w M0 H Z vs hpre hargs => ?_⟩
  obtain ⟨v, u, rfl⟩ : ∃ v u, vs = [v, u] := by
    match vs, hargs.1 with
    | [v, u], _ => exact ⟨v, u, rfl⟩
  obtain ⟨v', hv', hr⟩ := hargs.2 0 _ rfl
  obtain ⟨u', hu', hq⟩ := hargs.2 1 _ rfl
  simp only [List.getElem?_cons_zero, List.getElem?_cons_succ, Option.some.injEq] at hv' hu'
  subst hv'; subst hu'
  have hv : v = .string s := RepC.str_inv hr
  have hu : u = .string dotS := RepC.str_inv hq
  subst hv; subst hu
  refine Calls.mono (cut_one Try.laysCut s hs 46 w) ?_
  rintro e w' ⟨rfl, n, rfl⟩
  refine ⟨_, rfl, ⟨rfl, rfl, rfl, Nat.le_refl _, fun _ _ _ => rfl⟩, fun p hp => by simp [preMM] at hp, _, rfl, rfl, fun j c hc => ?_⟩
  match j, hc with
  | 0, hc => simp at hc; subst hc; exact ⟨_, rfl, RepC.str _⟩
  | 1, hc => simp at hc; subst hc; exact ⟨_, rfl, RepC.str _⟩
  | 2, hc => simp at hc; subst hc; exact ⟨_, rfl, RepC.bool _⟩
  | j + 3, hc => simp at hc

theorem cut_c (s : ByteArray) (hs : s.size ≤ 9223372036854775806) : Con Try.prog 104 [] [C1 (.str s), C1 (.str dotS)] (cutR s) [] := by
  refine con_of (c := _) Try.func104 rfl rfl rfl (by decide) fun w M0 H Z => ?_
  repeat' (first
   | refine gc_ rfl ?_
   | (refine g_region ?_; refine run_ th rfl ?_)
   | (refine g_drawC mix rfl rfl ?_; refine drun_ th rfl ?_)
   | (refine g_drawEC mix rfl rfl ?_; refine erun_ th rfl ?_)
   | refine SOps.nil ?_
   | refine DOps.nil ?_
   | refine EOps.nil ?_ rfl rfl
   | (refine s_split rfl rfl (fun hb => ?_) (fun hb => ?_) <;> (try simp only [hbL] at hb) <;> first | (exfalso; omega) | refine run_ th rfl ?_)
   | (refine d_split rfl rfl rfl (fun hb => ?_) (fun hb => ?_) <;> (try simp only [hbL] at hb) <;> first | (exfalso; omega) | refine drun_ th rfl ?_)
   | (refine g_if rfl (fun hb => ?_) (fun hb => ?_) <;> (try simp only [hbL] at hb) <;> (try (exfalso; omega)))
   | refine g_endL th Try.func104 (.inr ⟨_, rfl⟩) rfl rfl rfl ?_ rfl
   | (refine s_call (cutI_c s hs) [] rfl rfl rfl rfl rfl rfl rfl rfl rfl rfl ?_; refine run_ th rfl ?_))
  all_goals exact .refl _

/-- What lies ahead of the first dot and behind it. -/
theorem cut_B : ∀ l : List UInt8, Lib.cut l [46] = (match cutB l with
  | none => (l, [], false)
  | some (a, b) => (a, b, true))
  | [] => by simp [Lib.cut, Lib.index_one, Lib.indexByte, cutB]
  | c :: l => by
    have ih := cut_B l
    have hge := Lib.indexByte_ge l 46
    unfold Lib.cut at ih ⊢
    rw [Lib.index_one] at ih ⊢
    rw [Lib.indexByte, cutB]
    by_cases hc : c = 46
    · subst hc; simp
    · have hb : (c == 46) = false := by simpa using hc
      rw [if_neg hc, hb]
      simp only [Bool.false_eq_true, if_false]
      cases hq : cutB l with
      | none =>
        rw [hq] at ih
        by_cases hi : 0 ≤ Lib.indexByte l 46
        · rw [if_pos hi] at ih; simp at ih
        · have : Lib.indexByte l 46 = -1 := by omega
          simp [this]
      | some p =>
        obtain ⟨a, b⟩ := p
        rw [hq] at ih
        by_cases hi : 0 ≤ Lib.indexByte l 46
        · rw [if_pos hi] at ih
          have hn : (Lib.indexByte l 46 == -1) = false := by simp; omega
          simp only [hn, Bool.false_eq_true, if_false, Option.map_some]
          rw [if_pos (by omega)]
          simp only [Prod.mk.injEq, and_true] at ih ⊢
          have h1 : (Lib.indexByte l 46 + 1).toNat = (Lib.indexByte l 46).toNat + 1 := by omega
          rw [h1, List.take_succ_cons, ih.1]
          refine ⟨rfl, ?_⟩
          show List.drop ((Lib.indexByte l 46).toNat + 1 + 1) (c :: l) = b
          rw [List.drop_succ_cons]
          exact ih.2
        · rw [if_neg hi] at ih; simp at ih
theorem type_cut (s : ByteArray) : typeB s = (nameB (cutHd s) && (!cutOk s || nameB (cutTl s))) := by
  unfold typeB cutHd cutTl cutOk
  rw [cut_B]
  cases cutB s.data.toList with
  | none => simp
  | some p => simp
end Go.Sy
