/- Contracts: reparteeref13.key; equal keys are keys of equal stages. -/
import Derived.Test.YtohalikeabmimaaDoorMa
import Derived.Test.YtohalikeabmimaaDoorBk2
set_option linter.unusedSimpArgs false
set_option linter.unusedVariables false
set_option linter.unusedSectionVars false
namespace Go.Sy
open Go.Proofs
set_option maxRecDepth 100000
attribute [local irreducible] SOps Goes DOps EOps FOps

abbrev bs (l : List UInt8) : ByteArray := ⟨l.toArray⟩
theorem bs_app (l m : List UInt8) : bs l ++ bs m = bs (l ++ m) := by
  apply ba_ext; simp [bs]
theorem le_str {a b : ByteArray} (h : a = b) : LeT (.v (.one (.c (.str a)))) (.v (.one (.c (.str b)))) := by subst h; exact .refl _
theorem sz44 : (⟨#[44]⟩ : ByteArray).size = 1 := rfl
theorem sz59 : (⟨#[59]⟩ : ByteArray).size = 1 := rfl
theorem bs_size (l : List UInt8) : (bs l).size = l.length := rfl
def atR (l : List Int) : List UInt8 := l.flatMap fun a => digs a.toNat ++ [44]
def rowR (m : List ByteArray) : List UInt8 := m.flatMap fun x => x.data.toList ++ [44]
def mailR (l : List (List ByteArray)) : List UInt8 := l.flatMap fun m => 59 :: rowR m
def keyR (s : Stg) : List UInt8 := atR s.at_ ++ mailR s.mail
theorem atR_succ {l : List Int} {k : Nat} (h : k < l.length) : atR (l.take (k + 1)) = atR (l.take k) ++ (digs l[k].toNat ++ [44]) := by
  rw [List.take_succ_eq_append_getElem h, atR, List.flatMap_append]; simp [atR]
theorem rowR_succ {l : List ByteArray} {k : Nat} (h : k < l.length) : rowR (l.take (k + 1)) = rowR (l.take k) ++ (l[k].data.toList ++ [44]) := by
  rw [List.take_succ_eq_append_getElem h, rowR, List.flatMap_append]; simp [rowR]
theorem mailR_succ {l : List (List ByteArray)} {k : Nat} (h : k < l.length) : mailR (l.take (k + 1)) = mailR (l.take k) ++ (59 :: rowR l[k]) := by
  rw [List.take_succ_eq_append_getElem h, mailR, List.flatMap_append]; simp [mailR]
theorem atR_len (l : List Int) : (atR l).length ≤ 3 * l.length := by
  induction l with
  | nil => simp [atR]
  | cons a l ih =>
    have := digs_len a.toNat
    simp only [atR, List.flatMap_cons, List.length_append, List.length_cons, List.length_nil] at ih ⊢
    omega
theorem rowR_len {l : List ByteArray} (h : ∀ x ∈ l, x.data.toList.length ≤ 12) : (rowR l).length ≤ 13 * l.length := by
  induction l with
  | nil => simp [rowR]
  | cons m l ih =>
    have h1 := h m List.mem_cons_self
    have h2 := ih fun x hx => h x (List.mem_cons_of_mem _ hx)
    simp only [rowR, List.flatMap_cons, List.length_append, List.length_cons, List.length_nil] at h2 ⊢
    omega
theorem mailR_len {l : List (List ByteArray)} (h : ∀ m ∈ l, (rowR m).length ≤ 10000) : (mailR l).length ≤ 10001 * l.length := by
  induction l with
  | nil => simp [mailR]
  | cons m l ih =>
    have h1 := h m List.mem_cons_self
    have h2 := ih fun x hx => h x (List.mem_cons_of_mem _ hx)
    simp only [mailR, List.flatMap_cons, List.length_append, List.length_cons] at h2 ⊢
    omega
/-- What the key of a stage needs. -/
structure KeyOkR (s : Stg) : Prop where
  at_ : s.at_.length ≤ 1000
  mail : s.mail.length ≤ 1000
  nat : ∀ a ∈ s.at_, 0 ≤ a ∧ a < 100
  row : ∀ m ∈ s.mail, m.length ≤ 64
  name : ∀ m ∈ s.mail, ∀ x ∈ m, x.data.toList.length ≤ 12
theorem KeyOkR.rowLen {s : Stg} (h : KeyOkR s) : ∀ m ∈ s.mail, (rowR m).length ≤ 10000 := fun m hm => by
  have h1 := rowR_len (h.name m hm)
  have h2 := h.row m hm
  omega

set_option maxHeartbeats 4000000 in
theorem keyR_c (s : Stg) (h : KeyOkR s) : Con Tryd.prog 32 [] [Ag s.cs] (Rv (.str (bs (keyR s)))) [] := by
  refine con_of (c := _) Tryd.func32 rfl rfl rfl (by decide) fun w M0 H Z => ?_
  repeat' (first
   | refine gc_ rfl ?_
   | (refine g_region ?_; refine run_ th rfl ?_)
   | (refine g_drawC mix rfl rfl ?_; refine drun_ th rfl ?_)
   | (refine g_drawEC mix rfl rfl ?_; refine erun_ th rfl ?_)
   | refine SOps.nil ?_
   | refine DOps.nil ?_
   | refine EOps.nil ?_ rfl rfl
   | (refine s_split rfl rfl (fun hb => ?_) (fun hb => ?_) <;> (try simp only [hbL] at hb) <;> first | (exfalso; omega) | refine run_ th rfl ?_)
   | (refine d_split rfl rfl rfl (fun hb => ?_) (fun hb => ?_) <;> (try simp only [hbL] at hb) <;> first | (exfalso; omega) | refine drun_ th rfl ?_)
   | (refine g_if rfl (fun hb => ?_) (fun hb => ?_) <;> (try simp only [hbL] at hb) <;> (try (exfalso; omega))))
  refine g_loop1 (fun i : Nat => i ≤ s.at_.length) (fun i => [(1, .v (.one (.ptr 1 0))), (3, .v (C1 (.str (bs (atR (s.at_.take i)))))), (4, .v (C1 (.int .i64 (i : Int))))])
    (fun _ => [(1, .box [.c (intsT s.at_), .c (mailT s.mail)])]) (fun i => s.at_.length - i) 0 (Nat.zero_le _)
    (fun a w h => h.sub (by exact ⟨⟨_, rfl, .refl _⟩, ⟨_, rfl, .refl _⟩, ⟨_, rfl, .refl _⟩, trivial⟩) (by exact ⟨⟨_, rfl, .refl _⟩, trivial⟩) rfl rfl rfl) (fun i hi ih => ?_)
  have hlen1 := atR_len (s.at_.take i)
  rw [List.length_take, Nat.min_eq_left hi] at hlen1
  have ha1 := h.at_
  have hm1 := h.mail
  by_cases hlt : i < s.at_.length
  · have hx : (s.at_.map fun x => [CT.int .i64 x])[i]? = some [CT.int .i64 s.at_[i]] := by simp [hlt]
    obtain ⟨hn0, hn1⟩ := h.nat s.at_[i] (List.getElem_mem hlt)
    have hdc : Con Tryd.prog 58 [] [C1 (.int .i64 ((s.at_[i].toNat : Nat) : Int))] (Rv (.str (bs (digs s.at_[i].toNat)))) [] := digits_c s.at_[i].toNat (by omega)
    rw [show ((s.at_[i].toNat : Nat) : Int) = s.at_[i] by omega] at hdc
    have hdl := digs_len s.at_[i].toNat
    have hs1 : (bs (atR (s.at_.take i))).size ≤ 3000 := by rw [bs_size]; omega
    have hs2 : (bs (digs s.at_[i].toNat)).size ≤ 2 := hdl
    have hs3 := sz44
    have hih := ih (i + 1) hlt (by omega)
    rw [atR_succ hlt] at hih
    generalize s.at_[i] = a at *
    repeat' (first
     | refine gc_ rfl ?_
     | (refine g_region ?_; refine run_ th rfl ?_)
     | (refine g_drawC mix rfl rfl ?_; refine drun_ th rfl ?_)
     | (refine g_drawEC mix rfl rfl ?_; refine erun_ th rfl ?_)
     | refine SOps.nil ?_
     | refine DOps.nil ?_
     | refine EOps.nil ?_ rfl rfl
     | (refine s_split rfl rfl (fun hb => ?_) (fun hb => ?_) <;> (try simp only [hbL] at hb) <;> first | (exfalso; omega) | refine run_ th rfl ?_)
     | (refine d_split rfl rfl rfl (fun hb => ?_) (fun hb => ?_) <;> (try simp only [hbL] at hb) <;> first | (exfalso; omega) | refine drun_ th rfl ?_)
     | (refine g_if rfl (fun hb => ?_) (fun hb => ?_) <;> (try simp only [hbL] at hb) <;> (try (exfalso; omega)))
     | (refine s_idx th rfl rfl rfl rfl rfl rfl rfl rfl rfl i _ rfl hx ?_; refine run_ th rfl ?_)
     | (refine s_call hdc [] rfl rfl rfl rfl rfl rfl rfl rfl rfl rfl ?_; refine run_ th rfl ?_)
     | (refine s_cat rfl rfl rfl rfl rfl rfl (by first | omega | (rw [ByteArray.size_append]; omega)) ?_; refine run_ th rfl ?_)
     | (refine s_add rfl rfl rfl rfl rfl rfl (by omega) ?_; refine run_ th rfl ?_))
    all_goals first
      | (exfalso; omega)
      | exact g_sub (by exact ⟨⟨_, rfl, .refl _⟩, ⟨_, rfl, le_str (by rw [← bs_app, ← bs_app, ByteArray.append_assoc])⟩, ⟨_, rfl, le_int (by omega)⟩, trivial⟩) (by exact ⟨⟨_, rfl, .refl _⟩, trivial⟩) rfl rfl rfl hih
  · have hie : i = s.at_.length := by omega
    subst hie
    clear ih
    rw [List.take_length]
    rw [List.take_length] at hlen1
    repeat' (first
     | refine gc_ rfl ?_
     | (refine g_region ?_; refine run_ th rfl ?_)
     | (refine g_drawC mix rfl rfl ?_; refine drun_ th rfl ?_)
     | (refine g_drawEC mix rfl rfl ?_; refine erun_ th rfl ?_)
     | refine SOps.nil ?_
     | refine DOps.nil ?_
     | refine EOps.nil ?_ rfl rfl
     | (refine s_split rfl rfl (fun hb => ?_) (fun hb => ?_) <;> (try simp only [hbL] at hb) <;> first | (exfalso; omega) | refine run_ th rfl ?_)
     | (refine d_split rfl rfl rfl (fun hb => ?_) (fun hb => ?_) <;> (try simp only [hbL] at hb) <;> first | (exfalso; omega) | refine drun_ th rfl ?_)
     | (refine g_if rfl (fun hb => ?_) (fun hb => ?_) <;> (try simp only [hbL] at hb) <;> (try (exfalso; omega))))
    all_goals first
      | (exfalso; omega)
      | skip
    refine g_loop1 (fun i : Nat => i ≤ s.mail.length) (fun i => [(1, .v (.one (.ptr 1 0))), (3, .v (C1 (.str (bs (atR s.at_ ++ mailR (s.mail.take i)))))), (5, .v (C1 (.int .i64 (i : Int))))])
      (fun _ => [(1, .box [.c (intsT s.at_), .c (mailT s.mail)])]) (fun i => s.mail.length - i) 0 (Nat.zero_le _)
      (fun a w h => h.sub (by exact ⟨⟨_, rfl, .refl _⟩, ⟨_, rfl, le_str (by simp [mailR])⟩, ⟨_, rfl, .refl _⟩, trivial⟩) (by exact ⟨⟨_, rfl, .refl _⟩, trivial⟩) rfl rfl rfl) (fun i hi ih => ?_)
    have hlen2 := mailR_len (l := s.mail.take i) fun m hm => h.rowLen m (List.mem_of_mem_take hm)
    rw [List.length_take, Nat.min_eq_left hi] at hlen2
    by_cases hlt : i < s.mail.length
    · have hx : (s.mail.map fun m => [namesT m])[i]? = some [namesT s.mail[i]] := by simp [hlt]
      have hr := h.row s.mail[i] (List.getElem_mem hlt)
      have hnm := h.name s.mail[i] (List.getElem_mem hlt)
      have hs1 : (bs (atR s.at_ ++ mailR (s.mail.take i))).size ≤ 11000000 := by rw [bs_size, List.length_append]; omega
      have hs2 := sz59
      have hih := ih (i + 1) hlt (by omega)
      rw [mailR_succ hlt] at hih
      generalize s.mail[i] = m at *
      clear ih
      repeat' (first
       | refine gc_ rfl ?_
       | (refine g_region ?_; refine run_ th rfl ?_)
       | (refine g_drawC mix rfl rfl ?_; refine drun_ th rfl ?_)
       | (refine g_drawEC mix rfl rfl ?_; refine erun_ th rfl ?_)
       | refine SOps.nil ?_
       | refine DOps.nil ?_
       | refine EOps.nil ?_ rfl rfl
       | (refine s_split rfl rfl (fun hb => ?_) (fun hb => ?_) <;> (try simp only [hbL] at hb) <;> first | (exfalso; omega) | refine run_ th rfl ?_)
       | (refine d_split rfl rfl rfl (fun hb => ?_) (fun hb => ?_) <;> (try simp only [hbL] at hb) <;> first | (exfalso; omega) | refine drun_ th rfl ?_)
       | (refine g_if rfl (fun hb => ?_) (fun hb => ?_) <;> (try simp only [hbL] at hb) <;> (try (exfalso; omega)))
       | (refine s_cat rfl rfl rfl rfl rfl rfl (by first | omega | (rw [ByteArray.size_append]; omega)) ?_; refine run_ th rfl ?_))
      all_goals first
        | (exfalso; omega)
        | skip
      refine g_loop1 (fun k : Nat => k ≤ m.length) (fun k => [(1, .v (.one (.ptr 1 0))), (3, .v (C1 (.str (bs (atR s.at_ ++ mailR (s.mail.take i) ++ (59 :: rowR (m.take k))))))), (5, .v (C1 (.int .i64 (i : Int)))), (6, .v (C1 (.int .i64 (k : Int))))])
        (fun _ => [(1, .box [.c (intsT s.at_), .c (mailT s.mail)])]) (fun k => m.length - k) 0 (Nat.zero_le _)
        (fun a w h => h.sub (by exact ⟨⟨_, rfl, .refl _⟩, ⟨_, rfl, le_str (by rw [show (59 :: rowR (m.take 0)) = [59] from rfl, ← bs_app]; rfl)⟩, ⟨_, rfl, .refl _⟩, ⟨_, rfl, .refl _⟩, trivial⟩) (by exact ⟨⟨_, rfl, .refl _⟩, trivial⟩) rfl rfl rfl) (fun k hk ih => ?_)
      have hlen3 := rowR_len (l := m.take k) fun x hx => hnm x (List.mem_of_mem_take hx)
      rw [List.length_take, Nat.min_eq_left hk] at hlen3
      by_cases hkl : k < m.length
      · have hy : (m.map fun x => [CT.str x])[k]? = some [CT.str m[k]] := by simp [hkl]
        have hnk := hnm m[k] (List.getElem_mem hkl)
        have hih2 := ih (k + 1) hkl (by omega)
        rw [rowR_succ hkl] at hih2
        generalize m[k] = y at *
        have hs4 : y.size ≤ 12 := hnk
        have hs5 : (bs (atR s.at_ ++ mailR (s.mail.take i) ++ (59 :: rowR (m.take k)))).size ≤ 12000000 := by rw [bs_size, List.length_append, List.length_append, List.length_cons]; omega
        have hs3 := sz44
        clear ih hih
        repeat' (first
         | refine gc_ rfl ?_
         | (refine g_region ?_; refine run_ th rfl ?_)
         | (refine g_drawC mix rfl rfl ?_; refine drun_ th rfl ?_)
         | (refine g_drawEC mix rfl rfl ?_; refine erun_ th rfl ?_)
         | refine SOps.nil ?_
         | refine DOps.nil ?_
         | refine EOps.nil ?_ rfl rfl
         | (refine s_split rfl rfl (fun hb => ?_) (fun hb => ?_) <;> (try simp only [hbL] at hb) <;> first | (exfalso; omega) | refine run_ th rfl ?_)
         | (refine d_split rfl rfl rfl (fun hb => ?_) (fun hb => ?_) <;> (try simp only [hbL] at hb) <;> first | (exfalso; omega) | refine drun_ th rfl ?_)
         | (refine g_if rfl (fun hb => ?_) (fun hb => ?_) <;> (try simp only [hbL] at hb) <;> (try (exfalso; omega)))
         | (refine s_idx th rfl rfl rfl rfl rfl rfl rfl rfl rfl i _ rfl hx ?_; refine run_ th rfl ?_)
         | (refine s_idx th rfl rfl rfl rfl rfl rfl rfl rfl rfl k _ rfl hy ?_; refine run_ th rfl ?_)
         | (refine s_cat rfl rfl rfl rfl rfl rfl (by first | omega | (rw [ByteArray.size_append]; omega)) ?_; refine run_ th rfl ?_)
         | (refine s_add rfl rfl rfl rfl rfl rfl (by omega) ?_; refine run_ th rfl ?_))
        all_goals first
          | (exfalso; omega)
          | exact g_sub (by exact ⟨⟨_, rfl, .refl _⟩, ⟨_, rfl, le_str (by
              rw [← List.cons_append, ← List.append_assoc, ← List.append_assoc, ← bs_app, ← bs_app]; rfl)⟩, ⟨_, rfl, .refl _⟩, ⟨_, rfl, le_int (by omega)⟩, trivial⟩) (by exact ⟨⟨_, rfl, .refl _⟩, trivial⟩) rfl rfl rfl hih2
      · have hke : k = m.length := by omega
        subst hke
        rw [List.take_length]
        clear ih
        repeat' (first
         | refine gc_ rfl ?_
         | (refine g_region ?_; refine run_ th rfl ?_)
         | (refine g_drawC mix rfl rfl ?_; refine drun_ th rfl ?_)
         | (refine g_drawEC mix rfl rfl ?_; refine erun_ th rfl ?_)
         | refine SOps.nil ?_
         | refine DOps.nil ?_
         | refine EOps.nil ?_ rfl rfl
         | (refine s_split rfl rfl (fun hb => ?_) (fun hb => ?_) <;> (try simp only [hbL] at hb) <;> first | (exfalso; omega) | refine run_ th rfl ?_)
         | (refine d_split rfl rfl rfl (fun hb => ?_) (fun hb => ?_) <;> (try simp only [hbL] at hb) <;> first | (exfalso; omega) | refine drun_ th rfl ?_)
         | (refine g_if rfl (fun hb => ?_) (fun hb => ?_) <;> (try simp only [hbL] at hb) <;> (try (exfalso; omega)))
         | (refine s_idx th rfl rfl rfl rfl rfl rfl rfl rfl rfl i _ rfl hx ?_; refine run_ th rfl ?_)
         | (refine s_add rfl rfl rfl rfl rfl rfl (by omega) ?_; refine run_ th rfl ?_))
        all_goals first
          | (exfalso; omega)
          | exact g_sub (by exact ⟨⟨_, rfl, .refl _⟩, ⟨_, rfl, le_str (by rw [List.append_assoc])⟩, ⟨_, rfl, le_int (by omega)⟩, trivial⟩) (by exact ⟨⟨_, rfl, .refl _⟩, trivial⟩) rfl rfl rfl hih
    · have hie : i = s.mail.length := by omega
      subst hie
      rw [List.take_length]
      clear ih
      repeat' (first
       | refine gc_ rfl ?_
       | (refine g_region ?_; refine run_ th rfl ?_)
       | (refine g_drawC mix rfl rfl ?_; refine drun_ th rfl ?_)
       | (refine g_drawEC mix rfl rfl ?_; refine erun_ th rfl ?_)
       | refine SOps.nil ?_
       | refine DOps.nil ?_
       | refine EOps.nil ?_ rfl rfl
       | (refine s_split rfl rfl (fun hb => ?_) (fun hb => ?_) <;> (try simp only [hbL] at hb) <;> first | (exfalso; omega) | refine run_ th rfl ?_)
       | (refine d_split rfl rfl rfl (fun hb => ?_) (fun hb => ?_) <;> (try simp only [hbL] at hb) <;> first | (exfalso; omega) | refine drun_ th rfl ?_)
       | (refine g_if rfl (fun hb => ?_) (fun hb => ?_) <;> (try simp only [hbL] at hb) <;> (try (exfalso; omega)))
       | refine g_end th Tryd.func32 (.inr ⟨_, rfl⟩) rfl rfl rfl ⟨?_, rfl⟩)
      all_goals first
        | (exfalso; omega)
        | exact .refl _

/-! ### Equal keys -/
theorem name_noR {l : ByteArray} (h : nameB l = true) : (44 : UInt8) ∉ l.data.toList ∧ (59 : UInt8) ∉ l.data.toList ∧ l.data.toList ≠ [] ∧ l.data.toList.length ≤ 12 := by
  unfold nameB at h
  split at h
  · cases h
  · rename_i c r hc
    simp only [Bool.and_eq_true, decide_eq_true_eq, List.all_eq_true] at h
    obtain ⟨h1, h2, _, h4⟩ := h
    have hno : ∀ x ∈ c :: r, nchB x = true := fun x hx => by
      rcases List.mem_cons.1 hx with rfl | hx
      · simp [nchB, h2]
      · exact h4 x hx
    rw [hc]
    refine ⟨fun hx => ?_, fun hx => ?_, by simp, by simp; omega⟩
    · have := hno _ hx; revert this; decide
    · have := hno _ hx; revert this; decide
theorem digs_noR {k : Nat} (h : k < 100) : (44 : UInt8) ∉ digs k := fun hx => (digs_pln h 44 hx).2.1 rfl
theorem atR_inj : ∀ {l m : List Int} {r s : List UInt8}, l.length = m.length → (∀ a ∈ l, 0 ≤ a ∧ a < 100) → (∀ a ∈ m, 0 ≤ a ∧ a < 100) → atR l ++ r = atR m ++ s → l = m ∧ r = s
  | [], [], r, s, _, _, _, h => ⟨rfl, h⟩
  | [], _ :: _, _, _, hl, _, _, _ => by simp at hl
  | _ :: _, [], _, _, hl, _, _, _ => by simp at hl
  | a :: l, b :: m, r, s, hl, h1, h2, h => by
    obtain ⟨a0, a1⟩ := h1 a List.mem_cons_self
    obtain ⟨b0, b1⟩ := h2 b List.mem_cons_self
    simp only [atR, List.flatMap_cons, List.append_assoc, List.cons_append, List.nil_append] at h
    obtain ⟨e1, e2⟩ := spl (digs_noR (show a.toNat < 100 by omega)) (digs_noR (show b.toNat < 100 by omega)) (.inr ⟨_, rfl⟩) (.inr ⟨_, rfl⟩) h
    injection e2 with _ e2
    obtain ⟨e3, e4⟩ := atR_inj (by simpa using hl) (fun x hx => h1 x (List.mem_cons_of_mem _ hx)) (fun x hx => h2 x (List.mem_cons_of_mem _ hx)) e2
    have := digs_inj (show a.toNat < 100 by omega) (show b.toNat < 100 by omega) e1
    exact ⟨by rw [e3, show a = b by omega], e4⟩
theorem rowR_no {l : List ByteArray} (h : ∀ x ∈ l, nameB x = true) : (59 : UInt8) ∉ rowR l := by
  simp only [rowR, List.mem_flatMap, List.mem_append, List.mem_singleton, not_exists, not_and, not_or]
  exact fun x hx => ⟨(name_noR (h x hx)).2.1, by decide⟩
theorem rowR_inj : ∀ {l m : List ByteArray}, (∀ x ∈ l, nameB x = true) → (∀ x ∈ m, nameB x = true) → rowR l = rowR m → l = m
  | [], [], _, _, _ => rfl
  | [], y :: m, _, _, h => by simp [rowR] at h
  | x :: l, [], _, _, h => by simp [rowR] at h
  | x :: l, y :: m, h1, h2, h => by
    have e : ∀ (z : ByteArray) (k : List ByteArray), rowR (z :: k) = z.data.toList ++ 44 :: rowR k := fun z k => by simp [rowR]
    rw [e, e] at h
    obtain ⟨e1, e2⟩ := spl (name_noR (h1 x List.mem_cons_self)).1 (name_noR (h2 y List.mem_cons_self)).1 (.inr ⟨_, rfl⟩) (.inr ⟨_, rfl⟩) h
    injection e2 with _ e2
    rw [ba_ext e1, rowR_inj (fun z hz => h1 z (List.mem_cons_of_mem _ hz)) (fun z hz => h2 z (List.mem_cons_of_mem _ hz)) e2]
theorem mailR_sep (l : List (List ByteArray)) : sepAt 59 (mailR l) := by
  cases l with
  | nil => exact .inl rfl
  | cons m l => exact .inr ⟨rowR m ++ mailR l, rfl⟩
theorem mailR_inj : ∀ {l m : List (List ByteArray)}, (∀ q ∈ l, ∀ x ∈ q, nameB x = true) → (∀ q ∈ m, ∀ x ∈ q, nameB x = true) → mailR l = mailR m → l = m
  | [], [], _, _, _ => rfl
  | [], y :: m, _, _, h => by simp [mailR] at h
  | x :: l, [], _, _, h => by simp [mailR] at h
  | x :: l, y :: m, h1, h2, h => by
    have e : ∀ (z : List ByteArray) (k : List (List ByteArray)), mailR (z :: k) = 59 :: (rowR z ++ mailR k) := fun z k => rfl
    rw [e, e] at h
    injection h with _ h
    obtain ⟨e1, e2⟩ := spl (rowR_no (h1 x List.mem_cons_self)) (rowR_no (h2 y List.mem_cons_self)) (mailR_sep _) (mailR_sep _) h
    rw [rowR_inj (h1 x List.mem_cons_self) (h2 y List.mem_cons_self) e1, mailR_inj (fun z hz => h1 z (List.mem_cons_of_mem _ hz)) (fun z hz => h2 z (List.mem_cons_of_mem _ hz)) e2]
section
variable {b : Bk} {roles : List ByteArray} {s t : Stg}
theorem keyR_inj (hn : b.nodes.length ≤ 100) (hs : GoodS b roles s) (ht : GoodS b roles t) (h : keyR s = keyR t) : s = t := by
  obtain ⟨_, _, l1, _, _⟩ := mayS_at hs.may
  obtain ⟨_, _, l2, _, _⟩ := mayS_at ht.may
  obtain ⟨e1, e2⟩ := atR_inj (by rw [l1, l2]) (hs.at hn) (ht.at hn) h
  have e3 := mailR_inj hs.lab ht.lab e2
  cases s; cases t; simp at e1 e3; rw [e1, e3]
theorem GoodS.keyR (h : GoodS b roles s) (hn : b.nodes.length ≤ 100) : KeyOkR s := by
  obtain ⟨_, h2, h3, h4, _⟩ := mayS_at h.may
  have h5 : roles.length * roles.length ≤ 5 * 5 := Nat.mul_le_mul h2 h2
  exact ⟨by omega, by omega, h.at hn, fun m hm => mayS_long h.may m hm, fun m hm x hx => (name_noR (h.lab m hm x hx)).2.2.2⟩
end
end Go.Sy
