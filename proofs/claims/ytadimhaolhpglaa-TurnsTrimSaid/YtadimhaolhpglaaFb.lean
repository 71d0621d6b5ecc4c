/- Contracts: a name. -/
import Derived.Test.YtadimhaolhpglaaFa
set_option linter.unusedSimpArgs false
set_option linter.unusedVariables false
set_option linter.unusedSectionVars false
namespace Go.Sy
open Go.Proofs
set_option maxRecDepth 100000
attribute [local irreducible] SOps Goes

def nchB (c : UInt8) : Bool := letB (c.toNat : Int) || digB (c.toNat : Int)
/-- A name (P1.1). -/
def nameB (s : ByteArray) : Bool :=
  match s.data.toList with
  | [] => false
  | c :: r => decide (r.length < 12) && (letB (c.toNat : Int) && (!kwB s && r.all nchB))

theorem sz_data (s : ByteArray) : s.data.toList.length = s.size := by simp

theorem nameB_cons {s : ByteArray} {c : UInt8} {r : List UInt8} (h : s.data.toList = c :: r) :
    nameB s = (decide (r.length < 12) && (letB (c.toNat : Int) && (!kwB s && r.all nchB))) := by
  unfold nameB; rw [h]

set_option maxHeartbeats 4000000 in
theorem may_c (s : ByteArray) : Con Try.prog 53 [] [C1 (.str s)] (Rv (.bool (nameB s))) [] := by
  have hsz := sz_data s
  cases hl : s.data.toList with
  | nil =>
    have h0 : s.size = 0 := by rw [← hsz, hl]; rfl
    have hn : nameB s = false := by unfold nameB; rw [hl]
    refine con_of (c := _) Try.func53 rfl rfl rfl (by decide) fun w M0 H Z => ?_
    repeat' (first
     | refine gc_ rfl ?_
     | (refine g_region ?_; refine run_ th rfl ?_)
     | (refine g_drawC mix rfl rfl ?_; refine drun_ th rfl ?_)
     | (refine g_drawEC mix rfl rfl ?_; refine erun_ th rfl ?_)
     | refine SOps.nil ?_
     | refine DOps.nil ?_
     | refine EOps.nil ?_ rfl rfl
     | (refine s_split rfl rfl (fun hb => ?_) (fun hb => ?_) <;> (try simp only [hbL] at hb) <;> first | (exfalso; omega) | refine run_ th rfl ?_)
     | (refine d_split rfl rfl rfl (fun hb => ?_) (fun hb => ?_) <;> (try simp only [hbL] at hb) <;> first | (exfalso; omega) | refine drun_ th rfl ?_)
     | (refine g_if rfl (fun hb => ?_) (fun hb => ?_) <;> (try simp only [hbL] at hb) <;> (try (exfalso; omega)))
     | refine g_end th Try.func53 (.inr ⟨_, rfl⟩) rfl rfl rfl ⟨?_, rfl⟩)
    · simp [packS, hn]
    all_goals (exfalso; omega)
  | cons c r =>
    have hr : r.length + 1 = s.size := by rw [← hsz, hl]; rfl
    have hn := nameB_cons hl
    have hc : s.data.toList[0]? = some c := by rw [hl]; rfl
    refine con_of (c := _) Try.func53 rfl rfl rfl (by decide) fun w M0 H Z => ?_
    repeat' (first
     | refine gc_ rfl ?_
     | (refine g_region ?_; refine run_ th rfl ?_)
     | (refine g_drawC mix rfl rfl ?_; refine drun_ th rfl ?_)
     | (refine g_drawEC mix rfl rfl ?_; refine erun_ th rfl ?_)
     | refine SOps.nil ?_
     | refine DOps.nil ?_
     | refine EOps.nil ?_ rfl rfl
     | (refine s_split rfl rfl (fun hb => ?_) (fun hb => ?_) <;> (try simp only [hbL] at hb) <;> first | (exfalso; omega) | refine run_ th rfl ?_)
     | (refine d_split rfl rfl rfl (fun hb => ?_) (fun hb => ?_) <;> (try simp only [hbL] at hb) <;> first | (exfalso; omega) | refine drun_ th rfl ?_)
     | (refine g_if rfl (fun hb => ?_) (fun hb => ?_) <;> (try simp only [hbL] at hb) <;> (try (exfalso; omega)))
     | refine g_end th Try.func53 (.inr ⟨_, rfl⟩) rfl rfl rfl ⟨?_, rfl⟩
     | (refine s_str th rfl rfl rfl rfl rfl rfl rfl 0 c rfl hc ?_; refine run_ th rfl ?_)
     | (refine s_call (letter_c _) [] rfl rfl rfl rfl rfl rfl rfl rfl rfl rfl ?_; refine run_ th rfl ?_)
     | (refine s_call (keyword_c _) [] rfl rfl rfl rfl rfl rfl rfl rfl rfl rfl ?_; refine run_ th rfl ?_))
    · simp [packS, hn, show ¬ r.length < 12 by omega]
    · simp [packS, hn, hb]
    · simp [packS, hn, hb]
    · rename_i hl1 hk1
      refine g_loop1 (fun k : Nat => k ≤ r.length ∧ (r.take k).all nchB = true) (fun k => [(0, .v (C1 (.str s))), (3, .v (C1 (.int .i64 (k + 1 : Int))))]) (fun _ => []) (fun k => r.length - k) 0 ⟨Nat.zero_le _, rfl⟩
        (fun a w h => h.sub (by exact ⟨⟨_, rfl, .refl _⟩, ⟨_, rfl, le_int rfl⟩, trivial⟩) (by exact trivial) rfl rfl rfl) (fun k hk ih => ?_)
      obtain ⟨hk, hok⟩ := hk
      by_cases hlt : k < r.length
      · have hx : s.data.toList[k + 1]? = some r[k] := by rw [hl]; simp [hlt]
        have hnx : (r.take (k + 1)).all nchB = nchB r[k] := by
          rw [List.take_succ_eq_append_getElem hlt, List.all_append, hok]; simp
        repeat' (first
         | refine gc_ rfl ?_
         | (refine g_region ?_; refine run_ th rfl ?_)
         | (refine g_drawC mix rfl rfl ?_; refine drun_ th rfl ?_)
         | (refine g_drawEC mix rfl rfl ?_; refine erun_ th rfl ?_)
         | refine SOps.nil ?_
         | refine DOps.nil ?_
         | refine EOps.nil ?_ rfl rfl
         | (refine s_split rfl rfl (fun hb => ?_) (fun hb => ?_) <;> (try simp only [hbL] at hb) <;> first | (exfalso; omega) | refine run_ th rfl ?_)
         | (refine d_split rfl rfl rfl (fun hb => ?_) (fun hb => ?_) <;> (try simp only [hbL] at hb) <;> first | (exfalso; omega) | refine drun_ th rfl ?_)
         | (refine g_if rfl (fun hb => ?_) (fun hb => ?_) <;> (try simp only [hbL] at hb) <;> (try (exfalso; omega)))
         | refine g_end th Try.func53 (.inr ⟨_, rfl⟩) rfl rfl rfl ⟨?_, rfl⟩
         | (refine s_str th rfl rfl rfl rfl rfl rfl rfl (k + 1) r[k] rfl hx ?_; refine run_ th rfl ?_)
         | (refine s_call (letter_c _) [] rfl rfl rfl rfl rfl rfl rfl rfl rfl rfl ?_; refine run_ th rfl ?_)
         | (refine s_call (digit_c _) [] rfl rfl rfl rfl rfl rfl rfl rfl rfl rfl ?_; refine run_ th rfl ?_)
         | (refine s_add rfl rfl rfl rfl rfl rfl (by omega) ?_; refine run_ th rfl ?_))
        · have : r.all nchB = false := by
            rw [List.all_eq_false]
            exact ⟨r[k], List.getElem_mem hlt, by simp [nchB, *]⟩
          simp [packS, hn, this]
        · exact g_sub (by exact ⟨⟨_, rfl, .refl _⟩, ⟨_, rfl, le_int (by omega)⟩, trivial⟩) (by exact trivial) rfl rfl rfl (ih (k + 1) ⟨hlt, by rw [hnx]; simp [nchB, *]⟩ (by omega))
        · exact g_sub (by exact ⟨⟨_, rfl, .refl _⟩, ⟨_, rfl, le_int (by omega)⟩, trivial⟩) (by exact trivial) rfl rfl rfl (ih (k + 1) ⟨hlt, by rw [hnx]; simp [nchB, *]⟩ (by omega))
      · have hke : k = r.length := by omega
        subst hke
        rw [List.take_length] at hok
        repeat' (first
         | refine gc_ rfl ?_
         | (refine g_region ?_; refine run_ th rfl ?_)
         | (refine g_drawC mix rfl rfl ?_; refine drun_ th rfl ?_)
         | (refine g_drawEC mix rfl rfl ?_; refine erun_ th rfl ?_)
         | refine SOps.nil ?_
         | refine DOps.nil ?_
         | refine EOps.nil ?_ rfl rfl
         | (refine s_split rfl rfl (fun hb => ?_) (fun hb => ?_) <;> (try simp only [hbL] at hb) <;> first | (exfalso; omega) | refine run_ th rfl ?_)
         | (refine d_split rfl rfl rfl (fun hb => ?_) (fun hb => ?_) <;> (try simp only [hbL] at hb) <;> first | (exfalso; omega) | refine drun_ th rfl ?_)
         | (refine g_if rfl (fun hb => ?_) (fun hb => ?_) <;> (try simp only [hbL] at hb) <;> (try (exfalso; omega)))
         | refine g_end th Try.func53 (.inr ⟨_, rfl⟩) rfl rfl rfl ⟨?_, rfl⟩)
        · have : r.length < 12 := by omega
          simp [packS, hn, this, hok, hk1, *]
end Go.Sy
