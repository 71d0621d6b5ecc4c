/- The law GlobeWrong. -/
import Derived.Test.YtadimhaolhpglaaYa
import Derived.Test.YtadimhaolhpglaaWx
set_option linter.unusedSimpArgs false
set_option linter.unusedVariables false
set_option linter.unusedSectionVars false
namespace Go.Sy
open Go.Proofs
set_option maxRecDepth 100000
attribute [local irreducible] SOps Goes DOps EOps GOps FOps

theorem LeX.set {a b : List CT} (h : LeCs a b) : ∀ (l : List (List CT)) (k : Nat), LeX (l.set k a) (l.set k b)
  | [], _ => .refl _
  | x :: l, 0 => .cons h (.refl _)
  | x :: l, k + 1 => by
    have hr : ∀ z : List CT, LeCs z z := fun z => by
      induction z with
      | nil => exact .nil
      | cons c z ih => exact .cons (.refl _) ih
    exact .cons (hr x) (LeX.set h l k)
theorem set_at {α : Type} {l : List α} {k : Nat} (h : k < l.length) (r : α) : (l.set k r)[k]? = some r := by simp [h]
theorem prt_no {p : Prt} (h : prtB p = true → False) : prtB p = false := by
  cases hb : prtB p with
  | false => rfl
  | true => exact (h hb).elim
theorem prt_noP {p : Prt} {x : Pnt} (hx : x ∈ p.points) (h : pntB p.roles p.points.length x = false) : prtB p = false := prt_no fun hv => by
  have := prt_pnt hv x hx
  rw [h] at this; cases this
theorem place_none {many : Nat} (h : 2 ≤ many ∧ many ≤ 4) {s : ByteArray} (hs : s = ⟨#[115, 116, 114, 97, 110, 103, 101, 114]⟩ ∨ s = ⟨#[]⟩) : decide (0 ≤ placeI (rolesL.take many) s) = false := by
  have h3 : many = 2 ∨ many = 3 ∨ many = 4 := by omega
  rcases h3 with rfl | rfl | rfl <;> rcases hs with rfl | rfl <;> decide
theorem set_big {p : Prt} (h : PrtBig p) {nm : ByteArray} {ro : List ByteArray} (k : Nat) {x : Pnt} (hx : ∀ a ∈ x.arms, a.name.size ≤ bigS) : PrtBig ⟨nm, ro, p.points.set k x⟩ := fun y hy a ha => by
  rcases List.mem_or_eq_of_mem_set hy with hy | rfl
  · exact h y hy a ha
  · exact hx a ha

theorem LeX.replicate {a b : List CT} (h : LeCs a b) : ∀ n, LeX (List.replicate n a) (List.replicate n b)
  | 0 => .refl _
  | n + 1 => .cons h (LeX.replicate h n)
/-- What the functions of layer 7 answer about a protocol that is none. -/
theorem bad_c (p : Prt) (hv : prtB p = false) (hB : PrtBig p) :
    Con Try.prog 38 [] [Ag p.cs, C1 .nils] (.tup [C1 (.int .i64 0), C1 (.bool false)]) [] ∧ Con Try.prog 42 [] [Ag p.cs] (Rv (.bool false)) [] ∧
    Con Try.prog 40 [] [Ag p.cs] (Rv (intsT [])) [] ∧ Con Try.prog 39 [] [Ag p.cs] (.v (Ag zeroP.cs)) [] ∧
    Con Try.prog 17 [] [Ag p.cs, C1 (.str ⟨#[97]⟩), C1 (intsT [0])] (Rv (intsT [])) [] ∧ Con Try.prog 19 [] [Ag p.cs, C1 (.str ⟨#[97]⟩), C1 (.int .i64 0)] (Rv (.bool false)) [] ∧
    Con Try.prog 44 [] [Ag p.cs, Ag p.cs] (Rv (.bool false)) [] := by
  refine ⟨?_, ?_, ?_, ?_, ?_, ?_, ?_⟩
  · have h := gwalk_c p hB []
    rw [show walkP p [] = .tup [C1 (.int .i64 0), C1 (.bool false)] by unfold walkP; rw [hv]; rfl] at h
    exact h.args (.cons (.refl _) (.cons (.one (.c (.nil 1))) .nil))
  · have h := gmay_c p hB
    rwa [hv] at h
  · have h := greach_c p hB
    rwa [show reachP p = [] by unfold reachP; rw [hv]; rfl] at h
  · have h := gtrim_c p hB
    rwa [show trimPL p = zeroP by unfold trimPL; rw [hv]; rfl] at h
  · have h := near_c p hB ⟨#[97]⟩ [0]
    rwa [show nearR p ⟨#[97]⟩ [0] = [] by unfold nearR; rw [hv]; rfl] at h
  · have h := lost_c p hB ⟨#[97]⟩ 0
    rwa [show lostR p ⟨#[97]⟩ 0 = false by unfold lostR; rw [hv]; rfl] at h
  · have h := gsame_c p p hB hB
    rwa [show sameP p p = false by unfold sameP; rw [hv]; rfl] at h
def gwMM (mm : MM) (xs : List (List CT)) : Nat → Unit → MM
  | 0, _ => mm
  | _, _ => updM mm 202 (.arr false 9 1 xs)
set_option maxHeartbeats 64000000 in
theorem globeWrong_c (made : List Int) (what at_ : Int) (hbig : (made.length + 1) * 8 ≤ 140737488355328) : Con Try.prog 13 [] [C1 (intsT made), C1 (.int .i64 what), C1 (.int .i64 at_)] (Rv (.bool true)) [] := by
  obtain ⟨hv, hB⟩ := made1_ok made
  have hpr := prot71_c giv7 made hbig
  obtain ⟨many, hm2, hm4, hro⟩ := made1_roles made
  obtain ⟨p, hp⟩ : ∃ p, p = made1 made := ⟨_, rfl⟩
  rw [← hp] at hv hB hpr hro
  clear hp
  have hln := prt_len hv
  have hrl : p.roles.length = many := by rw [hro]; exact (roleN_once ⟨hm2, by omega⟩).2.2
  obtain ⟨n, hn⟩ : ∃ n, n = p.points.length := ⟨_, rfl⟩
  have hk := pick_v (x := at_) (n := (n : Int)) (by omega) (by omega)
  have hu := pick_v (x := at_) (n := 9) (by omega) (by omega)
  have hw9 := remU (x := what) (n := 9) (by omega) (by omega)
  have hwn : IntKind.u64.wrap ((p.points.map Pnt.cs).length : Int) ≠ 0 := by rw [List.length_map, ← hn, wrapU_id (by omega) (by omega)]; omega
  have hpp : ((p.points.map Pnt.cs).length : Int) = (n : Int) := by rw [List.length_map, hn]
  obtain ⟨kN, hkN⟩ : ∃ kN : Nat, IntKind.i64.wrap ((IntKind.u64.wrap at_).tmod (IntKind.u64.wrap ((p.points.map Pnt.cs).length : Int))) = (kN : Int) := by
    rw [hpp]; exact ⟨_, (Int.toNat_of_nonneg hk.1).symm⟩
  have hkl : kN < p.points.length := by rw [hpp] at hkN; omega
  have hkm : kN < (p.points.map Pnt.cs).length := by simpa using hkl
  have hx0 : (p.points.map Pnt.cs)[kN]? = some (p.points[kN]).cs := by simp [hkl]
  have hxm : p.points[kN] ∈ p.points := List.getElem_mem hkl
  obtain ⟨x, hx⟩ : ∃ x, x = p.points[kN] := ⟨_, rfl⟩
  rw [← hx] at hx0 hxm
  have hr0 : (p.roles.map fun s => [CT.str s])[0]? = some [.str (p.roles.getD 0 ⟨#[]⟩)] := by rw [List.getElem?_map, List.getD_eq_getElem?_getD, List.getElem?_eq_getElem (by omega)]; rfl
  have hr1 : (p.roles.map fun s => [CT.str s])[1]? = some [.str (p.roles[1]'(by omega))] := by rw [List.getElem?_map, List.getElem?_eq_getElem (by omega)]; rfl
  have hrm : 1 < (p.roles.map fun s => [CT.str s]).length := by simp; omega
  obtain ⟨u, hue⟩ : ∃ u, u = IntKind.i64.wrap ((IntKind.u64.wrap at_).tmod 9) := ⟨_, rfl⟩
  rw [show IntKind.u64.wrap (9 : Int) = 9 from rfl, ← hue] at hu
  clear hx hn
  refine con_of (c := _) Try.func13 rfl rfl rfl (by decide) fun w M0 H Z => ?_
  refine g_len 0 rfl fun hll => ?_
  simp only [List.length_map] at hll
  repeat' (first
    | (refine g_atR 4 rfl ?_; refine g_ownB 22 202 7 1 rfl rfl rfl rfl rfl rfl rfl rfl ?_; refine g_ownB 200 201 7 2 rfl rfl rfl rfl rfl rfl rfl rfl ?_)
    | refine gc_ rfl ?_
    | ((fail_if_success refine g_atR 6 rfl ?_); refine g_region ?_; refine run_ th rfl ?_)
    | refine SOps.nil ?_
    | (refine g_if rfl (fun hb => ?_) (fun hb => ?_) <;> (try simp only [hbL] at hb) <;> (try (exfalso; omega)))
    | (refine s_call first7_c [] rfl rfl rfl rfl rfl rfl rfl rfl rfl rfl ?_; refine run_ th rfl ?_)
    | (refine s_call giv7_c [] rfl rfl rfl rfl rfl rfl rfl rfl rfl rfl ?_; refine run_ th rfl ?_)
    | (refine s_appendF th rfl rfl rfl rfl rfl rfl rfl rfl rfl rfl rfl rfl rfl rfl (by constructor <;> simp <;> omega) ?_; refine s_freeze 15 rfl rfl ?_; refine run_ th rfl ?_)
    | (refine s_callM hpr [] rfl rfl rfl rfl trivial ⟨rfl, rfl, rfl, rfl, rfl⟩ (fun _ => ⟨rfl, rfl, rfl, rfl, rfl, rfl, rfl⟩) (fun _ => rfl) (fun _ => rfl) rfl rfl rfl (fun v _ => ?_); refine run_ th rfl ?_)
    | (refine s_rem rfl rfl rfl rfl rfl rfl hwn ?_; refine run_ th rfl ?_; rw [hkN])
    | (refine s_idxo th rfl rfl rfl rfl rfl rfl rfl rfl rfl rfl kN rfl hkm ?_; refine run_ th rfl ?_))
  all_goals first
    | (exfalso; revert hb; simp; done)
    | skip
  refine g_sub (tm' := [(1, .v (C1 (.int .i64 what))), (2, .v (C1 (.int .i64 at_))), (7, .v (.one (.ptr 7 0))), (9, .v (.one (.aptr 201 kN 0)))]) (mm' := [(7, .box [.c (.str ⟨#[112]⟩), .own 202, .own 201]), (201, .arr false 34 3 (p.points.map Pnt.cs)), (202, .arr false 9 1 (p.roles.map fun s => [CT.str s]))]) (by exact ⟨⟨_, rfl, .refl _⟩, ⟨_, rfl, .refl _⟩, ⟨_, rfl, .refl _⟩, ⟨_, rfl, .refl _⟩, trivial⟩) (by exact ⟨⟨_, rfl, .refl _⟩, ⟨_, rfl, .refl _⟩, ⟨_, rfl, .refl _⟩, trivial⟩) rfl rfl rfl ?_
  have hwc : (IntKind.u64.wrap what).tmod 9 = 0 ∨ (IntKind.u64.wrap what).tmod 9 = 1 ∨ (IntKind.u64.wrap what).tmod 9 = 2 ∨ (IntKind.u64.wrap what).tmod 9 = 3 ∨ (IntKind.u64.wrap what).tmod 9 = 4 ∨ (IntKind.u64.wrap what).tmod 9 = 5 ∨ (IntKind.u64.wrap what).tmod 9 = 6 ∨ (IntKind.u64.wrap what).tmod 9 = 7 ∨ (IntKind.u64.wrap what).tmod 9 = 8 := by omega
  rcases hwc with hw | hw | hw | hw | hw | hw | hw | hw | hw
  · skip
    repeat' (first
      | refine gc_ rfl ?_
      | ((fail_if_success refine g_atR 24 rfl ?_); refine g_region ?_; refine run_ th rfl ?_)
      | refine SOps.nil ?_
      | (refine g_if rfl (fun hb => ?_) (fun hb => ?_) <;> (try simp only [hbL] at hb) <;> (try (exfalso; omega)))
      | (refine s_rem rfl rfl rfl rfl rfl rfl (by decide) ?_; rw [hw]; refine run_ th rfl ?_))
    refine g_sub (tm' := [(7, .v (.one (.ptr 7 0)))]) (mm' := [(7, .box [.c (.str ⟨#[114, 111, 108, 101, 115]⟩), .own 202, .own 201]), (201, .arr false 34 3 ((p.points).map Pnt.cs)), (202, .arr false 9 1 ((p.roles).map fun s => [CT.str s]))]) (by exact ⟨⟨_, rfl, .refl _⟩, trivial⟩) (by exact ⟨⟨_, rfl, .refl _⟩, ⟨_, rfl, .refl _⟩, ⟨_, rfl, .refl _⟩, trivial⟩) rfl rfl rfl ?_
    refine g_freeze 201 rfl rfl ?_
    refine g_freeze 202 rfl rfl ?_
    have hbad : prtB (⟨⟨#[114, 111, 108, 101, 115]⟩, p.roles, p.points⟩ : Prt) = false := prt_no fun h => by
      simp only [prtB, Bool.and_eq_true] at h
      exact absurd h.1 (by decide)
    have hbig2 : PrtBig (⟨⟨#[114, 111, 108, 101, 115]⟩, p.roles, p.points⟩ : Prt) := hB
    obtain ⟨c1, c2, c3, c4, c5, c6, c7⟩ := bad_c _ hbad hbig2
    repeat' (first
      | refine gc_ rfl ?_
      | (refine g_region ?_; refine run_ th rfl ?_)
      | refine SOps.nil ?_
      | (refine s_call c1 [] rfl rfl rfl rfl rfl rfl rfl rfl rfl rfl ?_; refine run_ th rfl ?_)
      | (refine s_call c2 [] rfl rfl rfl rfl rfl rfl rfl rfl rfl rfl ?_; refine run_ th rfl ?_)
      | (refine s_call c3 [] rfl rfl rfl rfl rfl rfl rfl rfl rfl rfl ?_; refine run_ th rfl ?_)
      | (refine s_call c4 [] rfl rfl rfl rfl rfl rfl rfl rfl rfl rfl ?_; refine run_ th rfl ?_)
      | (refine s_call c5 [] rfl rfl rfl rfl rfl rfl rfl rfl rfl rfl ?_; refine run_ th rfl ?_)
      | (refine s_call c6 [] rfl rfl rfl rfl rfl rfl rfl rfl rfl rfl ?_; refine run_ th rfl ?_)
      | (refine s_call c7 [] rfl rfl rfl rfl rfl rfl rfl rfl rfl rfl ?_; refine run_ th rfl ?_)
      | (refine s_split rfl rfl (fun hb => ?_) (fun hb => ?_) <;> (try simp only [hbL] at hb) <;> first | (exfalso; omega) | refine run_ th rfl ?_)
      | (refine s_step (op_field1 th rfl rfl rfl rfl rfl rfl rfl rfl rfl).wp rfl ?_; refine run_ th rfl ?_)
      | (refine s_freeze 143 rfl rfl ?_; refine s_leT 143 (.v (C1 (intsT [0]))) rfl (.v (.one (.c (.nn true 1 _)))) ?_; refine run_ th rfl ?_))
    all_goals first
      | (exfalso; revert hb; simp; done)
      | (exfalso; exact hb rfl)
      | (refine g_endL th Try.func13 (.inr ⟨_, rfl⟩) rfl rfl rfl ?_ rfl
         first | exact .refl _ | exact le_ct rfl | exact le_ct (by simp))
  · skip
    repeat' (first
      | (refine g_atR 11 rfl ?_; refine g_drawF3 (ι := Unit) 4 0 7 [7] [202] [] (fun _ _ => []) (gwMM _ ((p.roles.map fun s => [CT.str s]).set 1 [.str (p.roles.getD 0 ⟨#[]⟩)])) () mix rfl (fun k x => by match k with | 0 => (refine subG_spec ?_; repeat (first | exact trivial | refine ⟨rfl, ?_⟩)) | _ + 1 => (refine subG_spec ?_; repeat (first | exact trivial | refine ⟨rfl, ?_⟩))) (fun k x hk => by match k, hk with | 0, _ => (refine subG_spec ?_; repeat (first | exact trivial | refine ⟨rfl, ?_⟩))) rfl (fun _ _ => rfl) rfl rfl (by simp) rfl rfl ?_; refine frun_ th rfl ?_)
      | (refine f_idxo th rfl rfl rfl rfl rfl rfl rfl rfl rfl rfl rfl 0 rfl (by omega) ?_; refine frun_ th rfl ?_)
      | (refine f_idxo th rfl rfl rfl rfl rfl rfl rfl rfl rfl rfl rfl 1 rfl hrm ?_; refine frun_ th rfl ?_)
      | (refine f_loada th _ rfl rfl rfl rfl hr0 rfl rfl rfl rfl rfl rfl ?_; refine frun_ th rfl ?_)
      | (refine FOps.nil ⟨Effs.cons rfl (fun x => ?_) Effs.nil, fun x => ?_⟩)
      | exact ef_storea (i := 202) th rfl rfl rfl rfl rfl rfl rfl rfl rfl rfl rfl hrm rfl rfl
      | refine gc_ rfl ?_
      | ((fail_if_success refine g_atR 24 rfl ?_); refine g_region ?_; refine run_ th rfl ?_)
      | refine SOps.nil ?_
      | (refine g_if rfl (fun hb => ?_) (fun hb => ?_) <;> (try simp only [hbL] at hb) <;> (try (exfalso; omega)))
      | (refine s_rem rfl rfl rfl rfl rfl rfl (by decide) ?_; rw [hw]; refine run_ th rfl ?_))
    refine g_sub (tm' := [(7, .v (.one (.ptr 7 0)))]) (mm' := [(7, .box [.c (.str ⟨#[112]⟩), .own 202, .own 201]), (201, .arr false 34 3 ((p.points).map Pnt.cs)), (202, .arr false 9 1 ((p.roles.set 1 (p.roles.getD 0 ⟨#[]⟩)).map fun s => [CT.str s]))]) (by exact ⟨⟨_, rfl, .refl _⟩, trivial⟩) (by exact ⟨⟨_, rfl, .refl _⟩, ⟨_, rfl, .refl _⟩, ⟨_, rfl, .arr (by rw [List.map_set]; exact .refl _)⟩, trivial⟩) rfl rfl rfl ?_
    refine g_freeze 201 rfl rfl ?_
    refine g_freeze 202 rfl rfl ?_
    have hbad : prtB (⟨⟨#[112]⟩, p.roles.set 1 (p.roles.getD 0 ⟨#[]⟩), p.points⟩ : Prt) = false := prt_no fun h => by
      simp only [prtB, Bool.and_eq_true] at h
      have h1 := h.2.2.2.1
      simp only [hro] at h1
      have h3 : many = 2 ∨ many = 3 ∨ many = 4 := by omega
      rcases h3 with rfl | rfl | rfl <;> exact absurd h1 (by decide)
    have hbig2 : PrtBig (⟨⟨#[112]⟩, p.roles.set 1 (p.roles.getD 0 ⟨#[]⟩), p.points⟩ : Prt) := hB
    obtain ⟨c1, c2, c3, c4, c5, c6, c7⟩ := bad_c _ hbad hbig2
    repeat' (first
      | refine gc_ rfl ?_
      | (refine g_region ?_; refine run_ th rfl ?_)
      | refine SOps.nil ?_
      | (refine s_call c1 [] rfl rfl rfl rfl rfl rfl rfl rfl rfl rfl ?_; refine run_ th rfl ?_)
      | (refine s_call c2 [] rfl rfl rfl rfl rfl rfl rfl rfl rfl rfl ?_; refine run_ th rfl ?_)
      | (refine s_call c3 [] rfl rfl rfl rfl rfl rfl rfl rfl rfl rfl ?_; refine run_ th rfl ?_)
      | (refine s_call c4 [] rfl rfl rfl rfl rfl rfl rfl rfl rfl rfl ?_; refine run_ th rfl ?_)
      | (refine s_call c5 [] rfl rfl rfl rfl rfl rfl rfl rfl rfl rfl ?_; refine run_ th rfl ?_)
      | (refine s_call c6 [] rfl rfl rfl rfl rfl rfl rfl rfl rfl rfl ?_; refine run_ th rfl ?_)
      | (refine s_call c7 [] rfl rfl rfl rfl rfl rfl rfl rfl rfl rfl ?_; refine run_ th rfl ?_)
      | (refine s_split rfl rfl (fun hb => ?_) (fun hb => ?_) <;> (try simp only [hbL] at hb) <;> first | (exfalso; omega) | refine run_ th rfl ?_)
      | (refine s_step (op_field1 th rfl rfl rfl rfl rfl rfl rfl rfl rfl).wp rfl ?_; refine run_ th rfl ?_)
      | (refine s_freeze 143 rfl rfl ?_; refine s_leT 143 (.v (C1 (intsT [0]))) rfl (.v (.one (.c (.nn true 1 _)))) ?_; refine run_ th rfl ?_))
    all_goals first
      | (exfalso; revert hb; simp; done)
      | (exfalso; exact hb rfl)
      | (refine g_endL th Try.func13 (.inr ⟨_, rfl⟩) rfl rfl rfl ?_ rfl
         first | exact .refl _ | exact le_ct rfl | exact le_ct (by simp))
  · skip
    repeat' (first
      | (refine g_atR 13 rfl ?_; refine g_freeze 202 rfl rfl ?_)
      | (refine s_step (op_sliceTo (j := 1) th rfl rfl rfl rfl rfl rfl (by omega) rfl rfl).wp rfl ?_; refine run_ th rfl ?_)
      | refine gc_ rfl ?_
      | ((fail_if_success refine g_atR 24 rfl ?_); refine g_region ?_; refine run_ th rfl ?_)
      | refine SOps.nil ?_
      | (refine g_if rfl (fun hb => ?_) (fun hb => ?_) <;> (try simp only [hbL] at hb) <;> (try (exfalso; omega)))
      | (refine s_rem rfl rfl rfl rfl rfl rfl (by decide) ?_; rw [hw]; refine run_ th rfl ?_))
    refine g_sub (tm' := [(7, .v (.one (.ptr 7 0)))]) (mm' := [(7, .box [.c (.str ⟨#[112]⟩), .c (namesT (p.roles.take 1)), .own 201]), (201, .arr false 34 3 ((p.points).map Pnt.cs))]) (by exact ⟨⟨_, rfl, .refl _⟩, trivial⟩) (by exact ⟨⟨_, rfl, .box (.cons (.refl _) (.cons (.c (by unfold namesT; rw [List.map_take]; exact .refl _)) (.cons (.refl _) .nil)))⟩, ⟨_, rfl, .refl _⟩, trivial⟩) rfl rfl rfl ?_
    refine g_freeze 201 rfl rfl ?_
    have hbad : prtB (⟨⟨#[112]⟩, p.roles.take 1, p.points⟩ : Prt) = false := prt_no fun h => by
      simp only [prtB, Bool.and_eq_true, decide_eq_true_eq, List.length_take] at h
      omega
    have hbig2 : PrtBig (⟨⟨#[112]⟩, p.roles.take 1, p.points⟩ : Prt) := hB
    obtain ⟨c1, c2, c3, c4, c5, c6, c7⟩ := bad_c _ hbad hbig2
    repeat' (first
      | refine gc_ rfl ?_
      | (refine g_region ?_; refine run_ th rfl ?_)
      | refine SOps.nil ?_
      | (refine s_call c1 [] rfl rfl rfl rfl rfl rfl rfl rfl rfl rfl ?_; refine run_ th rfl ?_)
      | (refine s_call c2 [] rfl rfl rfl rfl rfl rfl rfl rfl rfl rfl ?_; refine run_ th rfl ?_)
      | (refine s_call c3 [] rfl rfl rfl rfl rfl rfl rfl rfl rfl rfl ?_; refine run_ th rfl ?_)
      | (refine s_call c4 [] rfl rfl rfl rfl rfl rfl rfl rfl rfl rfl ?_; refine run_ th rfl ?_)
      | (refine s_call c5 [] rfl rfl rfl rfl rfl rfl rfl rfl rfl rfl ?_; refine run_ th rfl ?_)
      | (refine s_call c6 [] rfl rfl rfl rfl rfl rfl rfl rfl rfl rfl ?_; refine run_ th rfl ?_)
      | (refine s_call c7 [] rfl rfl rfl rfl rfl rfl rfl rfl rfl rfl ?_; refine run_ th rfl ?_)
      | (refine s_split rfl rfl (fun hb => ?_) (fun hb => ?_) <;> (try simp only [hbL] at hb) <;> first | (exfalso; omega) | refine run_ th rfl ?_)
      | (refine s_step (op_field1 th rfl rfl rfl rfl rfl rfl rfl rfl rfl).wp rfl ?_; refine run_ th rfl ?_)
      | (refine s_freeze 143 rfl rfl ?_; refine s_leT 143 (.v (C1 (intsT [0]))) rfl (.v (.one (.c (.nn true 1 _)))) ?_; refine run_ th rfl ?_))
    all_goals first
      | (exfalso; revert hb; simp; done)
      | (exfalso; exact hb rfl)
      | (refine g_endL th Try.func13 (.inr ⟨_, rfl⟩) rfl rfl rfl ?_ rfl
         first | exact .refl _ | exact le_ct rfl | exact le_ct (by simp))
  · skip
    repeat' (first
      | (refine s_storef th _ rfl rfl rfl rfl hx0 rfl rfl rfl rfl rfl rfl rfl ?_; refine run_ th rfl ?_)
      | (refine s_storef th _ rfl rfl rfl rfl (set_at hkm _) rfl rfl rfl rfl rfl rfl rfl ?_; refine run_ th rfl ?_)
      | (refine s_storef th _ rfl rfl rfl rfl (set_at (by simp only [List.length_set]; exact hkm) _) rfl rfl rfl rfl rfl rfl rfl ?_; refine run_ th rfl ?_)
      | refine gc_ rfl ?_
      | ((fail_if_success refine g_atR 24 rfl ?_); refine g_region ?_; refine run_ th rfl ?_)
      | refine SOps.nil ?_
      | (refine g_if rfl (fun hb => ?_) (fun hb => ?_) <;> (try simp only [hbL] at hb) <;> (try (exfalso; omega)))
      | (refine s_rem rfl rfl rfl rfl rfl rfl (by decide) ?_; rw [hw]; refine run_ th rfl ?_))
    refine g_sub (tm' := [(7, .v (.one (.ptr 7 0)))]) (mm' := [(7, .box [.c (.str ⟨#[112]⟩), .own 202, .own 201]), (201, .arr false 34 3 ((p.points.set kN ⟨⟨#[97]⟩, ⟨#[97]⟩, x.arms⟩).map Pnt.cs)), (202, .arr false 9 1 ((p.roles).map fun s => [CT.str s]))]) (by exact ⟨⟨_, rfl, .refl _⟩, trivial⟩) (by exact ⟨⟨_, rfl, .refl _⟩, ⟨_, rfl, .arr (by rw [List.set_set, List.map_set]; exact .refl _)⟩, ⟨_, rfl, .refl _⟩, trivial⟩) rfl rfl rfl ?_
    refine g_freeze 201 rfl rfl ?_
    refine g_freeze 202 rfl rfl ?_
    have hbad : prtB (⟨⟨#[112]⟩, p.roles, p.points.set kN ⟨⟨#[97]⟩, ⟨#[97]⟩, x.arms⟩⟩ : Prt) = false := prt_noP (p := ⟨_, _, p.points.set kN ⟨⟨#[97]⟩, ⟨#[97]⟩, x.arms⟩⟩) (List.mem_set hkl _) (by unfold pntB endP; simp)
    have hbig2 : PrtBig (⟨⟨#[112]⟩, p.roles, p.points.set kN ⟨⟨#[97]⟩, ⟨#[97]⟩, x.arms⟩⟩ : Prt) := set_big hB kN (fun a ha => hB x hxm a ha)
    obtain ⟨c1, c2, c3, c4, c5, c6, c7⟩ := bad_c _ hbad hbig2
    repeat' (first
      | refine gc_ rfl ?_
      | (refine g_region ?_; refine run_ th rfl ?_)
      | refine SOps.nil ?_
      | (refine s_call c1 [] rfl rfl rfl rfl rfl rfl rfl rfl rfl rfl ?_; refine run_ th rfl ?_)
      | (refine s_call c2 [] rfl rfl rfl rfl rfl rfl rfl rfl rfl rfl ?_; refine run_ th rfl ?_)
      | (refine s_call c3 [] rfl rfl rfl rfl rfl rfl rfl rfl rfl rfl ?_; refine run_ th rfl ?_)
      | (refine s_call c4 [] rfl rfl rfl rfl rfl rfl rfl rfl rfl rfl ?_; refine run_ th rfl ?_)
      | (refine s_call c5 [] rfl rfl rfl rfl rfl rfl rfl rfl rfl rfl ?_; refine run_ th rfl ?_)
      | (refine s_call c6 [] rfl rfl rfl rfl rfl rfl rfl rfl rfl rfl ?_; refine run_ th rfl ?_)
      | (refine s_call c7 [] rfl rfl rfl rfl rfl rfl rfl rfl rfl rfl ?_; refine run_ th rfl ?_)
      | (refine s_split rfl rfl (fun hb => ?_) (fun hb => ?_) <;> (try simp only [hbL] at hb) <;> first | (exfalso; omega) | refine run_ th rfl ?_)
      | (refine s_step (op_field1 th rfl rfl rfl rfl rfl rfl rfl rfl rfl).wp rfl ?_; refine run_ th rfl ?_)
      | (refine s_freeze 143 rfl rfl ?_; refine s_leT 143 (.v (C1 (intsT [0]))) rfl (.v (.one (.c (.nn true 1 _)))) ?_; refine run_ th rfl ?_))
    all_goals first
      | (exfalso; revert hb; simp; done)
      | (exfalso; exact hb rfl)
      | (refine g_endL th Try.func13 (.inr ⟨_, rfl⟩) rfl rfl rfl ?_ rfl
         first | exact .refl _ | exact le_ct rfl | exact le_ct (by simp))
  · skip
    repeat' (first
      | (refine s_storef th _ rfl rfl rfl rfl hx0 rfl rfl rfl rfl rfl rfl rfl ?_; refine run_ th rfl ?_)
      | (refine s_storef th _ rfl rfl rfl rfl (set_at hkm _) rfl rfl rfl rfl rfl rfl rfl ?_; refine run_ th rfl ?_)
      | (refine s_storef th _ rfl rfl rfl rfl (set_at (by simp only [List.length_set]; exact hkm) _) rfl rfl rfl rfl rfl rfl rfl ?_; refine run_ th rfl ?_)
      | refine gc_ rfl ?_
      | ((fail_if_success refine g_atR 24 rfl ?_); refine g_region ?_; refine run_ th rfl ?_)
      | refine SOps.nil ?_
      | (refine g_if rfl (fun hb => ?_) (fun hb => ?_) <;> (try simp only [hbL] at hb) <;> (try (exfalso; omega)))
      | (refine s_rem rfl rfl rfl rfl rfl rfl (by decide) ?_; rw [hw]; refine run_ th rfl ?_))
    refine g_sub (tm' := [(7, .v (.one (.ptr 7 0)))]) (mm' := [(7, .box [.c (.str ⟨#[112]⟩), .own 202, .own 201]), (201, .arr false 34 3 ((p.points.set kN ⟨⟨#[97]⟩, ⟨#[115, 116, 114, 97, 110, 103, 101, 114]⟩, x.arms⟩).map Pnt.cs)), (202, .arr false 9 1 ((p.roles).map fun s => [CT.str s]))]) (by exact ⟨⟨_, rfl, .refl _⟩, trivial⟩) (by exact ⟨⟨_, rfl, .refl _⟩, ⟨_, rfl, .arr (by rw [List.set_set, List.map_set]; exact .refl _)⟩, ⟨_, rfl, .refl _⟩, trivial⟩) rfl rfl rfl ?_
    refine g_freeze 201 rfl rfl ?_
    refine g_freeze 202 rfl rfl ?_
    have hbad : prtB (⟨⟨#[112]⟩, p.roles, p.points.set kN ⟨⟨#[97]⟩, ⟨#[115, 116, 114, 97, 110, 103, 101, 114]⟩, x.arms⟩⟩ : Prt) = false := prt_noP (p := ⟨_, p.roles, p.points.set kN ⟨⟨#[97]⟩, ⟨#[115, 116, 114, 97, 110, 103, 101, 114]⟩, x.arms⟩⟩) (List.mem_set hkl _) (by unfold pntB endP; simp only; rw [hro, place_none ⟨hm2, hm4⟩ (.inl rfl)]; simp)
    have hbig2 : PrtBig (⟨⟨#[112]⟩, p.roles, p.points.set kN ⟨⟨#[97]⟩, ⟨#[115, 116, 114, 97, 110, 103, 101, 114]⟩, x.arms⟩⟩ : Prt) := set_big hB kN (fun a ha => hB x hxm a ha)
    obtain ⟨c1, c2, c3, c4, c5, c6, c7⟩ := bad_c _ hbad hbig2
    repeat' (first
      | refine gc_ rfl ?_
      | (refine g_region ?_; refine run_ th rfl ?_)
      | refine SOps.nil ?_
      | (refine s_call c1 [] rfl rfl rfl rfl rfl rfl rfl rfl rfl rfl ?_; refine run_ th rfl ?_)
      | (refine s_call c2 [] rfl rfl rfl rfl rfl rfl rfl rfl rfl rfl ?_; refine run_ th rfl ?_)
      | (refine s_call c3 [] rfl rfl rfl rfl rfl rfl rfl rfl rfl rfl ?_; refine run_ th rfl ?_)
      | (refine s_call c4 [] rfl rfl rfl rfl rfl rfl rfl rfl rfl rfl ?_; refine run_ th rfl ?_)
      | (refine s_call c5 [] rfl rfl rfl rfl rfl rfl rfl rfl rfl rfl ?_; refine run_ th rfl ?_)
      | (refine s_call c6 [] rfl rfl rfl rfl rfl rfl rfl rfl rfl rfl ?_; refine run_ th rfl ?_)
      | (refine s_call c7 [] rfl rfl rfl rfl rfl rfl rfl rfl rfl rfl ?_; refine run_ th rfl ?_)
      | (refine s_split rfl rfl (fun hb => ?_) (fun hb => ?_) <;> (try simp only [hbL] at hb) <;> first | (exfalso; omega) | refine run_ th rfl ?_)
      | (refine s_step (op_field1 th rfl rfl rfl rfl rfl rfl rfl rfl rfl).wp rfl ?_; refine run_ th rfl ?_)
      | (refine s_freeze 143 rfl rfl ?_; refine s_leT 143 (.v (C1 (intsT [0]))) rfl (.v (.one (.c (.nn true 1 _)))) ?_; refine run_ th rfl ?_))
    all_goals first
      | (exfalso; revert hb; simp; done)
      | (exfalso; exact hb rfl)
      | (refine g_endL th Try.func13 (.inr ⟨_, rfl⟩) rfl rfl rfl ?_ rfl
         first | exact .refl _ | exact le_ct rfl | exact le_ct (by simp))
  · skip
    repeat' (first
      | (refine s_storef th _ rfl rfl rfl rfl hx0 rfl rfl rfl rfl rfl rfl rfl ?_; refine run_ th rfl ?_)
      | (refine s_storef th _ rfl rfl rfl rfl (set_at hkm _) rfl rfl rfl rfl rfl rfl rfl ?_; refine run_ th rfl ?_)
      | (refine s_storef th _ rfl rfl rfl rfl (set_at (by simp only [List.length_set]; exact hkm) _) rfl rfl rfl rfl rfl rfl rfl ?_; refine run_ th rfl ?_)
      | refine gc_ rfl ?_
      | ((fail_if_success refine g_atR 24 rfl ?_); refine g_region ?_; refine run_ th rfl ?_)
      | refine SOps.nil ?_
      | (refine g_if rfl (fun hb => ?_) (fun hb => ?_) <;> (try simp only [hbL] at hb) <;> (try (exfalso; omega)))
      | (refine s_rem rfl rfl rfl rfl rfl rfl (by decide) ?_; rw [hw]; refine run_ th rfl ?_))
    refine g_sub (tm' := [(7, .v (.one (.ptr 7 0)))]) (mm' := [(7, .box [.c (.str ⟨#[112]⟩), .own 202, .own 201]), (201, .arr false 34 3 ((p.points.set kN ⟨⟨#[97]⟩, ⟨#[98]⟩, []⟩).map Pnt.cs)), (202, .arr false 9 1 ((p.roles).map fun s => [CT.str s]))]) (by exact ⟨⟨_, rfl, .refl _⟩, trivial⟩) (by exact ⟨⟨_, rfl, .refl _⟩, ⟨_, rfl, .arr (by rw [List.set_set, List.set_set, List.map_set]; exact LeX.set (.cons (.refl _) (.cons (.refl _) (.cons (.nil 4) .nil))) _ _)⟩, ⟨_, rfl, .refl _⟩, trivial⟩) rfl rfl rfl ?_
    refine g_freeze 201 rfl rfl ?_
    refine g_freeze 202 rfl rfl ?_
    have hbad : prtB (⟨⟨#[112]⟩, p.roles, p.points.set kN ⟨⟨#[97]⟩, ⟨#[98]⟩, []⟩⟩ : Prt) = false := prt_noP (p := ⟨_, _, p.points.set kN ⟨⟨#[97]⟩, ⟨#[98]⟩, []⟩⟩) (List.mem_set hkl _) (by unfold pntB endP armsOK; simp)
    have hbig2 : PrtBig (⟨⟨#[112]⟩, p.roles, p.points.set kN ⟨⟨#[97]⟩, ⟨#[98]⟩, []⟩⟩ : Prt) := set_big hB kN (fun a ha => by cases ha)
    obtain ⟨c1, c2, c3, c4, c5, c6, c7⟩ := bad_c _ hbad hbig2
    repeat' (first
      | refine gc_ rfl ?_
      | (refine g_region ?_; refine run_ th rfl ?_)
      | refine SOps.nil ?_
      | (refine s_call c1 [] rfl rfl rfl rfl rfl rfl rfl rfl rfl rfl ?_; refine run_ th rfl ?_)
      | (refine s_call c2 [] rfl rfl rfl rfl rfl rfl rfl rfl rfl rfl ?_; refine run_ th rfl ?_)
      | (refine s_call c3 [] rfl rfl rfl rfl rfl rfl rfl rfl rfl rfl ?_; refine run_ th rfl ?_)
      | (refine s_call c4 [] rfl rfl rfl rfl rfl rfl rfl rfl rfl rfl ?_; refine run_ th rfl ?_)
      | (refine s_call c5 [] rfl rfl rfl rfl rfl rfl rfl rfl rfl rfl ?_; refine run_ th rfl ?_)
      | (refine s_call c6 [] rfl rfl rfl rfl rfl rfl rfl rfl rfl rfl ?_; refine run_ th rfl ?_)
      | (refine s_call c7 [] rfl rfl rfl rfl rfl rfl rfl rfl rfl rfl ?_; refine run_ th rfl ?_)
      | (refine s_split rfl rfl (fun hb => ?_) (fun hb => ?_) <;> (try simp only [hbL] at hb) <;> first | (exfalso; omega) | refine run_ th rfl ?_)
      | (refine s_step (op_field1 th rfl rfl rfl rfl rfl rfl rfl rfl rfl).wp rfl ?_; refine run_ th rfl ?_)
      | (refine s_freeze 143 rfl rfl ?_; refine s_leT 143 (.v (C1 (intsT [0]))) rfl (.v (.one (.c (.nn true 1 _)))) ?_; refine run_ th rfl ?_))
    all_goals first
      | (exfalso; revert hb; simp; done)
      | (exfalso; exact hb rfl)
      | (refine g_endL th Try.func13 (.inr ⟨_, rfl⟩) rfl rfl rfl ?_ rfl
         first | exact .refl _ | exact le_ct rfl | exact le_ct (by simp))
  · skip
    repeat' (first
      | (refine s_storef th _ rfl rfl rfl rfl hx0 rfl rfl rfl rfl rfl rfl rfl ?_; refine run_ th rfl ?_)
      | (refine s_storef th _ rfl rfl rfl rfl (set_at hkm _) rfl rfl rfl rfl rfl rfl rfl ?_; refine run_ th rfl ?_)
      | (refine s_storef th _ rfl rfl rfl rfl (set_at (by simp only [List.length_set]; exact hkm) _) rfl rfl rfl rfl rfl rfl rfl ?_; refine run_ th rfl ?_)
      | (refine s_rem rfl rfl rfl rfl rfl rfl (by decide) ?_; refine run_ th rfl ?_; rw [← hue])
      | (refine s_subI rfl rfl rfl rfl rfl rfl (by omega) ?_; refine run_ th rfl ?_)
      | (refine s_freeze 92 rfl rfl ?_; refine s_leT 92 (.v (C1 (armsC [⟨⟨#[120]⟩, 0, ⟨#[]⟩, -1 - u⟩]))) rfl (.v (.one (.c (.nn true 4 _)))) ?_; refine run_ th rfl ?_)
      | refine gc_ rfl ?_
      | ((fail_if_success refine g_atR 24 rfl ?_); refine g_region ?_; refine run_ th rfl ?_)
      | refine SOps.nil ?_
      | (refine g_if rfl (fun hb => ?_) (fun hb => ?_) <;> (try simp only [hbL] at hb) <;> (try (exfalso; omega)))
      | (refine s_rem rfl rfl rfl rfl rfl rfl (by decide) ?_; rw [hw]; refine run_ th rfl ?_))
    refine g_sub (tm' := [(7, .v (.one (.ptr 7 0)))]) (mm' := [(7, .box [.c (.str ⟨#[112]⟩), .own 202, .own 201]), (201, .arr false 34 3 ((p.points.set kN ⟨⟨#[97]⟩, ⟨#[98]⟩, [⟨⟨#[120]⟩, 0, ⟨#[]⟩, -1 - u⟩]⟩).map Pnt.cs)), (202, .arr false 9 1 ((p.roles).map fun s => [CT.str s]))]) (by exact ⟨⟨_, rfl, .refl _⟩, trivial⟩) (by exact ⟨⟨_, rfl, .refl _⟩, ⟨_, rfl, .arr (by rw [List.set_set, List.set_set, List.map_set]; exact .refl _)⟩, ⟨_, rfl, .refl _⟩, trivial⟩) rfl rfl rfl ?_
    refine g_freeze 201 rfl rfl ?_
    refine g_freeze 202 rfl rfl ?_
    have hbad : prtB (⟨⟨#[112]⟩, p.roles, p.points.set kN ⟨⟨#[97]⟩, ⟨#[98]⟩, [⟨⟨#[120]⟩, 0, ⟨#[]⟩, -1 - u⟩]⟩⟩ : Prt) = false := prt_noP (p := ⟨_, _, p.points.set kN ⟨⟨#[97]⟩, ⟨#[98]⟩, [⟨⟨#[120]⟩, 0, ⟨#[]⟩, -1 - u⟩]⟩⟩) (List.mem_set hkl _) (by unfold pntB endP armsOK armB; simp only [List.all_cons]; rw [decide_eq_false (show ¬ (0 : Int) ≤ -1 - u by omega)]; simp)
    have hbig2 : PrtBig (⟨⟨#[112]⟩, p.roles, p.points.set kN ⟨⟨#[97]⟩, ⟨#[98]⟩, [⟨⟨#[120]⟩, 0, ⟨#[]⟩, -1 - u⟩]⟩⟩ : Prt) := set_big hB kN (fun a ha => by rw [List.mem_singleton.1 ha]; show (⟨#[]⟩ : ByteArray).size ≤ bigS; decide)
    obtain ⟨c1, c2, c3, c4, c5, c6, c7⟩ := bad_c _ hbad hbig2
    repeat' (first
      | refine gc_ rfl ?_
      | (refine g_region ?_; refine run_ th rfl ?_)
      | refine SOps.nil ?_
      | (refine s_call c1 [] rfl rfl rfl rfl rfl rfl rfl rfl rfl rfl ?_; refine run_ th rfl ?_)
      | (refine s_call c2 [] rfl rfl rfl rfl rfl rfl rfl rfl rfl rfl ?_; refine run_ th rfl ?_)
      | (refine s_call c3 [] rfl rfl rfl rfl rfl rfl rfl rfl rfl rfl ?_; refine run_ th rfl ?_)
      | (refine s_call c4 [] rfl rfl rfl rfl rfl rfl rfl rfl rfl rfl ?_; refine run_ th rfl ?_)
      | (refine s_call c5 [] rfl rfl rfl rfl rfl rfl rfl rfl rfl rfl ?_; refine run_ th rfl ?_)
      | (refine s_call c6 [] rfl rfl rfl rfl rfl rfl rfl rfl rfl rfl ?_; refine run_ th rfl ?_)
      | (refine s_call c7 [] rfl rfl rfl rfl rfl rfl rfl rfl rfl rfl ?_; refine run_ th rfl ?_)
      | (refine s_split rfl rfl (fun hb => ?_) (fun hb => ?_) <;> (try simp only [hbL] at hb) <;> first | (exfalso; omega) | refine run_ th rfl ?_)
      | (refine s_step (op_field1 th rfl rfl rfl rfl rfl rfl rfl rfl rfl).wp rfl ?_; refine run_ th rfl ?_)
      | (refine s_freeze 143 rfl rfl ?_; refine s_leT 143 (.v (C1 (intsT [0]))) rfl (.v (.one (.c (.nn true 1 _)))) ?_; refine run_ th rfl ?_))
    all_goals first
      | (exfalso; revert hb; simp; done)
      | (exfalso; exact hb rfl)
      | (refine g_endL th Try.func13 (.inr ⟨_, rfl⟩) rfl rfl rfl ?_ rfl
         first | exact .refl _ | exact le_ct rfl | exact le_ct (by simp))
  · skip
    repeat' (first
      | (refine s_storef th _ rfl rfl rfl rfl hx0 rfl rfl rfl rfl rfl rfl rfl ?_; refine run_ th rfl ?_)
      | (refine s_storef th _ rfl rfl rfl rfl (set_at hkm _) rfl rfl rfl rfl rfl rfl rfl ?_; refine run_ th rfl ?_)
      | (refine s_storef th _ rfl rfl rfl rfl (set_at (by simp only [List.length_set]; exact hkm) _) rfl rfl rfl rfl rfl rfl rfl ?_; refine run_ th rfl ?_)
      | (refine s_freeze 105 rfl rfl ?_; refine s_leT 105 (.v (C1 (armsC [⟨⟨#[120]⟩, 0, ⟨#[]⟩, 0⟩]))) rfl (.v (.one (.c (.nn true 4 _)))) ?_; refine run_ th rfl ?_)
      | refine gc_ rfl ?_
      | ((fail_if_success refine g_atR 24 rfl ?_); refine g_region ?_; refine run_ th rfl ?_)
      | refine SOps.nil ?_
      | (refine g_if rfl (fun hb => ?_) (fun hb => ?_) <;> (try simp only [hbL] at hb) <;> (try (exfalso; omega)))
      | (refine s_rem rfl rfl rfl rfl rfl rfl (by decide) ?_; rw [hw]; refine run_ th rfl ?_))
    refine g_sub (tm' := [(7, .v (.one (.ptr 7 0)))]) (mm' := [(7, .box [.c (.str ⟨#[112]⟩), .own 202, .own 201]), (201, .arr false 34 3 ((p.points.set kN ⟨⟨#[]⟩, ⟨#[]⟩, [⟨⟨#[120]⟩, 0, ⟨#[]⟩, 0⟩]⟩).map Pnt.cs)), (202, .arr false 9 1 ((p.roles).map fun s => [CT.str s]))]) (by exact ⟨⟨_, rfl, .refl _⟩, trivial⟩) (by exact ⟨⟨_, rfl, .refl _⟩, ⟨_, rfl, .arr (by rw [List.set_set, List.set_set, List.map_set]; exact .refl _)⟩, ⟨_, rfl, .refl _⟩, trivial⟩) rfl rfl rfl ?_
    refine g_freeze 201 rfl rfl ?_
    refine g_freeze 202 rfl rfl ?_
    have hbad : prtB (⟨⟨#[112]⟩, p.roles, p.points.set kN ⟨⟨#[]⟩, ⟨#[]⟩, [⟨⟨#[120]⟩, 0, ⟨#[]⟩, 0⟩]⟩⟩ : Prt) = false := prt_noP (p := ⟨_, p.roles, p.points.set kN ⟨⟨#[]⟩, ⟨#[]⟩, [⟨⟨#[120]⟩, 0, ⟨#[]⟩, 0⟩]⟩⟩) (List.mem_set hkl _) (by unfold pntB endP; simp only; rw [hro, place_none ⟨hm2, hm4⟩ (.inr rfl)]; simp)
    have hbig2 : PrtBig (⟨⟨#[112]⟩, p.roles, p.points.set kN ⟨⟨#[]⟩, ⟨#[]⟩, [⟨⟨#[120]⟩, 0, ⟨#[]⟩, 0⟩]⟩⟩ : Prt) := set_big hB kN (fun a ha => by rw [List.mem_singleton.1 ha]; show (⟨#[]⟩ : ByteArray).size ≤ bigS; decide)
    obtain ⟨c1, c2, c3, c4, c5, c6, c7⟩ := bad_c _ hbad hbig2
    repeat' (first
      | refine gc_ rfl ?_
      | (refine g_region ?_; refine run_ th rfl ?_)
      | refine SOps.nil ?_
      | (refine s_call c1 [] rfl rfl rfl rfl rfl rfl rfl rfl rfl rfl ?_; refine run_ th rfl ?_)
      | (refine s_call c2 [] rfl rfl rfl rfl rfl rfl rfl rfl rfl rfl ?_; refine run_ th rfl ?_)
      | (refine s_call c3 [] rfl rfl rfl rfl rfl rfl rfl rfl rfl rfl ?_; refine run_ th rfl ?_)
      | (refine s_call c4 [] rfl rfl rfl rfl rfl rfl rfl rfl rfl rfl ?_; refine run_ th rfl ?_)
      | (refine s_call c5 [] rfl rfl rfl rfl rfl rfl rfl rfl rfl rfl ?_; refine run_ th rfl ?_)
      | (refine s_call c6 [] rfl rfl rfl rfl rfl rfl rfl rfl rfl rfl ?_; refine run_ th rfl ?_)
      | (refine s_call c7 [] rfl rfl rfl rfl rfl rfl rfl rfl rfl rfl ?_; refine run_ th rfl ?_)
      | (refine s_split rfl rfl (fun hb => ?_) (fun hb => ?_) <;> (try simp only [hbL] at hb) <;> first | (exfalso; omega) | refine run_ th rfl ?_)
      | (refine s_step (op_field1 th rfl rfl rfl rfl rfl rfl rfl rfl rfl).wp rfl ?_; refine run_ th rfl ?_)
      | (refine s_freeze 143 rfl rfl ?_; refine s_leT 143 (.v (C1 (intsT [0]))) rfl (.v (.one (.c (.nn true 1 _)))) ?_; refine run_ th rfl ?_))
    all_goals first
      | (exfalso; revert hb; simp; done)
      | (exfalso; exact hb rfl)
      | (refine g_endL th Try.func13 (.inr ⟨_, rfl⟩) rfl rfl rfl ?_ rfl
         first | exact .refl _ | exact le_ct rfl | exact le_ct (by simp))
  · skip
    repeat' (first
      | (refine s_makeW th rfl rfl rfl rfl rfl rfl rfl rfl rfl rfl rfl rfl 25 rfl rfl (by constructor <;> decide) ?_; refine run_ th rfl ?_)
      | refine gc_ rfl ?_
      | ((fail_if_success refine g_atR 24 rfl ?_); refine g_region ?_; refine run_ th rfl ?_)
      | refine SOps.nil ?_
      | (refine g_if rfl (fun hb => ?_) (fun hb => ?_) <;> (try simp only [hbL] at hb) <;> (try (exfalso; omega)))
      | (refine s_rem rfl rfl rfl rfl rfl rfl (by decide) ?_; rw [hw]; refine run_ th rfl ?_))
    refine g_sub (tm' := [(7, .v (.one (.ptr 7 0)))]) (mm' := [(7, .box [.c (.str ⟨#[112]⟩), .own 202, .own 34]), (34, .arr false 34 3 ((List.replicate 25 noPnt).map Pnt.cs)), (202, .arr false 9 1 ((p.roles).map fun s => [CT.str s]))]) (by exact ⟨⟨_, rfl, .refl _⟩, trivial⟩) (by exact ⟨⟨_, rfl, .refl _⟩, ⟨_, rfl, .nn (by rw [List.map_replicate]; exact LeX.replicate (.cons (.refl _) (.cons (.refl _) (.cons (.nil 4) .nil))) 25)⟩, ⟨_, rfl, .refl _⟩, trivial⟩) rfl rfl rfl ?_
    refine g_freeze 34 rfl rfl ?_
    refine g_freeze 202 rfl rfl ?_
    have hbad : prtB (⟨⟨#[112]⟩, p.roles, List.replicate 25 noPnt⟩ : Prt) = false := prt_no fun h => by
      simp only [prtB, Bool.and_eq_true, decide_eq_true_eq, List.length_replicate] at h
      omega
    have hbig2 : PrtBig (⟨⟨#[112]⟩, p.roles, List.replicate 25 noPnt⟩ : Prt) := fun y hy a ha => by rw [(List.mem_replicate.1 hy).2] at ha; cases ha
    obtain ⟨c1, c2, c3, c4, c5, c6, c7⟩ := bad_c _ hbad hbig2
    repeat' (first
      | refine gc_ rfl ?_
      | (refine g_region ?_; refine run_ th rfl ?_)
      | refine SOps.nil ?_
      | (refine s_call c1 [] rfl rfl rfl rfl rfl rfl rfl rfl rfl rfl ?_; refine run_ th rfl ?_)
      | (refine s_call c2 [] rfl rfl rfl rfl rfl rfl rfl rfl rfl rfl ?_; refine run_ th rfl ?_)
      | (refine s_call c3 [] rfl rfl rfl rfl rfl rfl rfl rfl rfl rfl ?_; refine run_ th rfl ?_)
      | (refine s_call c4 [] rfl rfl rfl rfl rfl rfl rfl rfl rfl rfl ?_; refine run_ th rfl ?_)
      | (refine s_call c5 [] rfl rfl rfl rfl rfl rfl rfl rfl rfl rfl ?_; refine run_ th rfl ?_)
      | (refine s_call c6 [] rfl rfl rfl rfl rfl rfl rfl rfl rfl rfl ?_; refine run_ th rfl ?_)
      | (refine s_call c7 [] rfl rfl rfl rfl rfl rfl rfl rfl rfl rfl ?_; refine run_ th rfl ?_)
      | (refine s_split rfl rfl (fun hb => ?_) (fun hb => ?_) <;> (try simp only [hbL] at hb) <;> first | (exfalso; omega) | refine run_ th rfl ?_)
      | (refine s_step (op_field1 th rfl rfl rfl rfl rfl rfl rfl rfl rfl).wp rfl ?_; refine run_ th rfl ?_)
      | (refine s_freeze 143 rfl rfl ?_; refine s_leT 143 (.v (C1 (intsT [0]))) rfl (.v (.one (.c (.nn true 1 _)))) ?_; refine run_ th rfl ?_))
    all_goals first
      | (exfalso; revert hb; simp; done)
      | (exfalso; exact hb rfl)
      | (refine g_endL th Try.func13 (.inr ⟨_, rfl⟩) rfl rfl rfl ?_ rfl
         first | exact .refl _ | exact le_ct rfl | exact le_ct (by simp))
end Go.Sy
