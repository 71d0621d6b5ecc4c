/- Contracts: turns.carries, turns.arms. -/
import Derived.Test.YtadimhaolhpglaaUa
import Derived.Test.YtadimhaolhpglaaQw
import Derived.Test.YtadimhaolhpglaaLa
set_option linter.unusedSimpArgs false
set_option linter.unusedVariables false
set_option linter.unusedSectionVars false
namespace Go.Sy
open Go.Proofs
set_option maxRecDepth 100000
attribute [local irreducible] SOps Goes DOps EOps

theorem carB_chan (name : ByteArray) : carB 5 name = typeB name := by simp [carB]
theorem carB_data {k : Int} (name : ByteArray) (h0 : 0 ≤ k) (h5 : k < 5) : carB k name = decide (name = ⟨#[]⟩) := by
  unfold carB
  rw [if_neg (by omega)]
  simp [h0, h5]
theorem carB_no {k : Int} (name : ByteArray) (h : k < 0 ∨ 5 < k) : carB k name = false := by
  unfold carB
  rw [if_neg (by omega)]
  rcases h with h | h
  · simp; omega
  · simp; omega

set_option maxHeartbeats 4000000 in
theorem carries_c (k : Int) (name : ByteArray) (hs : name.size ≤ 9223372036854775806) : Con Try.prog 87 [] [Ag [.int .i64 k, .str name]] (Rv (.bool (carB k name))) [] := by
  refine con_of (c := _) Try.func87 rfl rfl rfl (by decide) fun w M0 H Z => ?_
  repeat' (first
   | refine gc_ rfl ?_
   | (refine g_region ?_; refine run_ th rfl ?_)
   | (refine g_drawC mix rfl rfl ?_; refine drun_ th rfl ?_)
   | (refine g_drawEC mix rfl rfl ?_; refine erun_ th rfl ?_)
   | refine SOps.nil ?_
   | refine DOps.nil ?_
   | refine EOps.nil ?_ rfl rfl
   | (refine s_split rfl rfl (fun hb => ?_) (fun hb => ?_) <;> (try simp only [hbL] at hb) <;> first | (exfalso; omega) | refine run_ th rfl ?_)
   | (refine d_split rfl rfl rfl (fun hb => ?_) (fun hb => ?_) <;> (try simp only [hbL] at hb) <;> first | (exfalso; omega) | refine drun_ th rfl ?_)
   | (refine g_if rfl (fun hb => ?_) (fun hb => ?_) <;> (try simp only [hbL] at hb) <;> (try (exfalso; omega)))
   | refine g_endL th Try.func87 (.inr ⟨_, rfl⟩) rfl rfl rfl ?_ rfl
   | (refine s_call (cut_c name hs) [] rfl rfl rfl rfl rfl rfl rfl rfl rfl rfl ?_; refine run_ th rfl ?_)
   | (refine s_call (may_c (cutHd name)) [] rfl rfl rfl rfl rfl rfl rfl rfl rfl rfl ?_; refine run_ th rfl ?_)
   | (refine s_call (may_c (cutTl name)) [] rfl rfl rfl rfl rfl rfl rfl rfl rfl rfl ?_; refine run_ th rfl ?_))
  all_goals first
    | exact le_ct (by rw [carB_no name (by omega)])
    | exact le_ct (by rw [carB_data name (by omega) (by omega)])
    | exact le_ct (by rw [show k = 5 by assumption, carB_chan, type_cut]; simp [*])

/-- The labels of the arms ahead are not met again. -/
def armsM (n : Int) (l : List Arm) : Bool := l.all (armB n) && decide ((l.map Arm.label).Nodup)
theorem armsM_snoc (n : Int) (l : List Arm) (a : Arm) : armsM n (l ++ [a]) = (armsM n l && (armB n a && !memB (l.map Arm.label) a.label)) := by
  unfold armsM
  rw [List.all_append, List.map_append]
  simp only [List.all_cons, List.all_nil, Bool.and_true, List.map_cons, List.map_nil]
  have hd : ((l.map Arm.label) ++ [a.label]).Nodup ↔ (l.map Arm.label).Nodup ∧ a.label ∉ l.map Arm.label := by
    rw [List.nodup_append]
    constructor
    · rintro ⟨h1, _, h3⟩
      exact ⟨h1, fun h => h3 _ h _ (by simp) rfl⟩
    · rintro ⟨h1, h2⟩
      exact ⟨h1, by simp, fun x hx y hy e => by simp at hy; subst hy; exact h2 (e ▸ hx)⟩
  have hq : decide (((l.map Arm.label) ++ [a.label]).Nodup) = (decide ((l.map Arm.label).Nodup) && !memB (l.map Arm.label) a.label) := by
    by_cases h : a.label ∈ l.map Arm.label
    · have hm : memB (l.map Arm.label) a.label = true := by simpa [memB] using h
      rw [hm, decide_eq_false fun hn => (hd.1 hn).2 h]; simp
    · have hm : memB (l.map Arm.label) a.label = false := by simpa [memB] using h
      rw [hm, Bool.not_false, Bool.and_true]
      exact decide_eq_decide.2 ⟨fun hn => (hd.1 hn).1, fun hn => hd.2 ⟨hn, h⟩⟩
  rw [hq]
  cases l.all (armB n) <;> cases armB n a <;> cases memB (l.map Arm.label) a.label <;> simp
theorem armsM_false {n : Int} {l : List Arm} {i : Nat} (hi : i < l.length) (ht : armsM n (l.take (i + 1)) = false) : armsM n l = false := by
  cases h : armsM n l with
  | false => rfl
  | true =>
    unfold armsM at h ht
    simp only [Bool.and_eq_true, decide_eq_true_eq] at h
    have h1 : (l.take (i + 1)).all (armB n) = true := List.all_eq_true.2 fun x hx => List.all_eq_true.1 h.1 x (List.mem_of_mem_take hx)
    have h2 : ((l.take (i + 1)).map Arm.label).Nodup := by rw [List.map_take]; exact (List.take_sublist _ _).nodup h.2
    rw [h1, decide_eq_true h2] at ht; cases ht
theorem le_mpo {a b : List (FV × FV)} (h : a = b) : LeM (.mpo a) (.mpo b) := by subst h; exact .refl _
theorem notMem_of {α : Type} [DecidableEq α] {l : List α} {a : α} (h : memB l a = false) : a ∉ l := by simpa [memB] using h
theorem armsOK_M (n : Int) (l : List Arm) : armsOK n l = (decide (1 ≤ l.length) && (decide (l.length ≤ 6) && armsM n l)) := rfl

set_option maxHeartbeats 8000000 in
theorem arms_c (l : List Arm) (n : Int) (hs : ∀ a ∈ l, a.name.size ≤ 9223372036854775806) : Con Try.prog 54 [] [C1 (armsC l), C1 (.int .i64 n)] (Rv (.bool (armsOK n l))) [] := by
  refine con_of (c := _) Try.func54 rfl rfl rfl (by decide) fun w M0 H Z => ?_
  refine g_len 0 rfl fun hll => ?_
  simp only [List.length_map] at hll
  repeat' (first
   | refine gc_ rfl ?_
   | (refine g_region ?_; refine run_ th rfl ?_)
   | (refine g_drawC mix rfl rfl ?_; refine drun_ th rfl ?_)
   | (refine g_drawEC mix rfl rfl ?_; refine erun_ th rfl ?_)
   | refine SOps.nil ?_
   | refine DOps.nil ?_
   | refine EOps.nil ?_ rfl rfl
   | (refine s_split rfl rfl (fun hb => ?_) (fun hb => ?_) <;> (try simp only [hbL] at hb) <;> first | (exfalso; omega) | refine run_ th rfl ?_)
   | (refine d_split rfl rfl rfl (fun hb => ?_) (fun hb => ?_) <;> (try simp only [hbL] at hb) <;> first | (exfalso; omega) | refine drun_ th rfl ?_)
   | (refine g_if rfl (fun hb => ?_) (fun hb => ?_) <;> (try simp only [hbL] at hb) <;> (try (exfalso; omega)))
   | refine g_endL th Try.func54 (.inr ⟨_, rfl⟩) rfl rfl rfl ?_ rfl)
  · exact le_ct (by rw [armsOK_M]; simp; omega)
  · exact le_ct (by rw [armsOK_M]; simp; omega)
  refine g_loop1 (fun i : Nat => i ≤ l.length ∧ armsM n (l.take i) = true)
    (fun i => [(0, .v (C1 (armsC l))), (1, .v (C1 (.int .i64 n))), (5, .v (.one (.mp 16))), (17, .v (C1 (armsC l))), (18, .v (C1 (.int .i64 (l.length : Int)))), (19, .v (C1 (.int .i64 (i : Int))))])
    (fun i => [(16, .mpo (entF strF (setK ((l.take i).map Arm.label))))])
    (fun i => l.length - i) 0 ⟨Nat.zero_le _, rfl⟩
    (fun a w h => h.sub (by exact ⟨⟨_, rfl, .refl _⟩, ⟨_, rfl, .refl _⟩, ⟨_, rfl, .refl _⟩, ⟨_, rfl, .refl _⟩, ⟨_, rfl, le_int (by simp)⟩, ⟨_, rfl, le_int rfl⟩, trivial⟩) (by exact ⟨⟨_, rfl, .refl _⟩, trivial⟩) rfl rfl rfl) (fun i hi ih => ?_)
  obtain ⟨hi, hok⟩ := hi
  by_cases hlt : i < l.length
  · have hx : (l.map Arm.cs)[i]? = some (l[i]).cs := by simp [hlt]
    have hsi := hs l[i] (List.getElem_mem hlt)
    have hst : armsM n (l.take (i + 1)) = (armB n l[i] && !memB ((l.take i).map Arm.label) l[i].label) := by
      rw [List.take_succ_eq_append_getElem hlt, armsM_snoc, hok, Bool.true_and]
    have hno : armsM n (l.take (i + 1)) = false → armsOK n l = false := fun h => by rw [armsOK_M, armsM_false hlt h]; simp
    have hlook : lookC (setK ((l.take i).map Arm.label)) l[i].label (.bool false) = .bool (memB ((l.take i).map Arm.label) l[i].label) := setK_look _ _
    obtain ⟨mb, hmb⟩ : ∃ mb, memB ((l.take i).map Arm.label) l[i].label = mb := ⟨_, rfl⟩
    rw [hmb] at hst hlook
    repeat' (first
     | refine gc_ rfl ?_
     | (refine g_region ?_; refine run_ th rfl ?_)
     | (refine g_drawC mix rfl rfl ?_; refine drun_ th rfl ?_)
     | (refine g_drawEC mix rfl rfl ?_; refine erun_ th rfl ?_)
     | refine SOps.nil ?_
     | refine DOps.nil ?_
     | refine EOps.nil ?_ rfl rfl
     | (refine s_split rfl rfl (fun hb => ?_) (fun hb => ?_) <;> (try simp only [hbL] at hb) <;> first | (exfalso; omega) | refine run_ th rfl ?_)
     | (refine d_split rfl rfl rfl (fun hb => ?_) (fun hb => ?_) <;> (try simp only [hbL] at hb) <;> first | (exfalso; omega) | refine drun_ th rfl ?_)
     | (refine g_if rfl (fun hb => ?_) (fun hb => ?_) <;> (try simp only [hbL] at hb) <;> (try (exfalso; omega)))
     | refine g_endL th Try.func54 (.inr ⟨_, rfl⟩) rfl rfl rfl ?_ rfl
     | (refine s_idx th rfl rfl rfl rfl rfl rfl rfl rfl rfl i _ rfl hx ?_; refine run_ th rfl ?_)
     | (refine s_call (may_c l[i].label) [] rfl rfl rfl rfl rfl rfl rfl rfl rfl rfl ?_; refine run_ th rfl ?_)
     | (refine s_call (carries_c l[i].kind l[i].name hsi) [] rfl rfl rfl rfl rfl rfl rfl rfl rfl rfl ?_; refine run_ th rfl ?_)
     | (refine s_lookS th (m := setK ((l.take i).map Arm.label)) rfl rfl rfl rfl rfl rfl rfl rfl rfl rfl rfl rfl ?_; rw [hlook]; refine run_ th rfl ?_)
     | (refine s_putS th (m := setK ((l.take i).map Arm.label)) (.inl rfl) rfl rfl rfl rfl rfl rfl rfl rfl ?_; refine run_ th rfl ?_)
     | (refine s_add rfl rfl rfl rfl rfl rfl (by omega) ?_; refine run_ th rfl ?_))
    all_goals first
      | exact le_ct (by rw [hno (by rw [hst]; simp [armB, *] <;> omega)])
      | (have hih := ih (i + 1) ⟨hlt, by rw [hst]; simp [armB, *] <;> omega⟩ (by omega)
         exact g_sub (by exact ⟨⟨_, rfl, .refl _⟩, ⟨_, rfl, .refl _⟩, ⟨_, rfl, .refl _⟩, ⟨_, rfl, .refl _⟩, ⟨_, rfl, .refl _⟩, ⟨_, rfl, le_int (by omega)⟩, trivial⟩)
           (by exact ⟨⟨_, rfl, le_mpo (by rw [setK_put (notMem_of (hmb.trans (by assumption))), List.take_succ_eq_append_getElem hlt, List.map_append]; rfl)⟩, trivial⟩) rfl rfl rfl hih)
  · have hke : i = l.length := by omega
    subst hke
    rw [List.take_length] at hok
    repeat' (first
     | refine gc_ rfl ?_
     | (refine g_region ?_; refine run_ th rfl ?_)
     | (refine g_drawC mix rfl rfl ?_; refine drun_ th rfl ?_)
     | (refine g_drawEC mix rfl rfl ?_; refine erun_ th rfl ?_)
     | refine SOps.nil ?_
     | refine DOps.nil ?_
     | refine EOps.nil ?_ rfl rfl
     | (refine s_split rfl rfl (fun hb => ?_) (fun hb => ?_) <;> (try simp only [hbL] at hb) <;> first | (exfalso; omega) | refine run_ th rfl ?_)
     | (refine d_split rfl rfl rfl (fun hb => ?_) (fun hb => ?_) <;> (try simp only [hbL] at hb) <;> first | (exfalso; omega) | refine drun_ th rfl ?_)
     | (refine g_if rfl (fun hb => ?_) (fun hb => ?_) <;> (try simp only [hbL] at hb) <;> (try (exfalso; omega)))
     | refine g_endL th Try.func54 (.inr ⟨_, rfl⟩) rfl rfl rfl ?_ rfl)
    exact le_ct (by rw [armsOK_M, hok]; simp; omega)
end Go.Sy
