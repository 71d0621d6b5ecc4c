/- Contracts of the reference, bundle Bk2. -/
import Derived.Test.YtohalikeabmimaaDoorBk1
import Derived.Test.YtohalikeabmimaaDoorQc
import Derived.Test.YtohalikeabmimaaDoorBq1
import Derived.Test.YtohalikeabmimaaDoorBg1
import Derived.Test.YtohalikeabmimaaDoorKa
import Derived.Test.YtohalikeabmimaaDoorSy8
import Derived.Test.YtohalikeabmimaaDoorBg3
/- Contracts: probe.key. -/
set_option linter.unusedSimpArgs false
set_option linter.unusedVariables false
set_option linter.unusedSectionVars false
namespace Go.Sy
open Go.Proofs Go.RowKit

def joinU (m : List ByteArray) : List UInt8 := Lib.join (m.map (·.data.toList)) [44]
def atU (l : List Int) : List UInt8 := l.flatMap fun a => digs a.toNat ++ [32]
def mailU (l : List (List ByteArray)) : List UInt8 := l.flatMap fun m => 124 :: joinU m
def keyG (s : Stg) : List UInt8 := atU s.at_ ++ mailU s.mail

theorem atU_succ {l : List Int} {k : Nat} (h : k < l.length) : atU (l.take (k + 1)) = atU (l.take k) ++ (digs l[k].toNat ++ [32]) := by
  rw [List.take_succ_eq_append_getElem h, atU, List.flatMap_append]; simp [atU]
theorem mailU_succ {l : List (List ByteArray)} {k : Nat} (h : k < l.length) : mailU (l.take (k + 1)) = mailU (l.take k) ++ (124 :: joinU l[k]) := by
  rw [List.take_succ_eq_append_getElem h, mailU, List.flatMap_append]; simp [mailU]
theorem digs_len (k : Nat) : (digs k).length ≤ 2 := by unfold digs; split <;> simp
theorem atU_len (l : List Int) : (atU l).length ≤ 3 * l.length := by
  induction l with
  | nil => simp [atU]
  | cons a l ih =>
    have := digs_len a.toNat
    simp only [atU, List.flatMap_cons, List.length_append, List.length_cons, List.length_nil] at ih ⊢
    omega
theorem mailU_len {l : List (List ByteArray)} (h : ∀ m ∈ l, (joinU m).length ≤ 10000) : (mailU l).length ≤ 10001 * l.length := by
  induction l with
  | nil => simp [mailU]
  | cons m l ih =>
    have h1 := h m List.mem_cons_self
    have h2 := ih fun x hx => h x (List.mem_cons_of_mem _ hx)
    simp only [mailU, List.flatMap_cons, List.length_append, List.length_cons] at h2 ⊢
    omega

theorem bld_keep {T e : TypeId} {B b : Nat} {p : Value} {bs : List Value} {w w' : World} (h : Lib.BuilderAt T e B b p bs w) (hb : Below w.heap.size w w') : Lib.BuilderAt T e B b p bs w' := by
  have hlt := Lib.BuilderAt.lt h
  obtain ⟨hB, v, hbk, hown, hne⟩ := h
  refine ⟨hB, v, (hb.block _ hlt).trans hbk, ⟨hown.1, ?_⟩, hne⟩
  rcases hown.2 with h | ⟨g, cap, cur, hv, hg, hh, r⟩
  · exact .inl h
  · refine .inr ⟨g, cap, cur, hv, hg, (hb.block g ?_).trans hh, r⟩
    rcases Nat.lt_or_ge g w.heap.size with h' | h'
    · exact h'
    · simp [Array.getElem?_eq_none h'] at hh
theorem itoa_w (k : Nat) (hk : k < 100) (w : World) : Calls Tryd.prog 53 #[.int .i64 (k : Int)] w fun e w' => e = .returned (.string ⟨(digs k).toArray⟩) ∧ w' = w := by
  rw [← digs_eq hk]
  exact Any.strconv_Itoa_small { Tryd.laysItoa with } k hk w

set_option maxHeartbeats 8000000 in
set_option maxRecDepth 100000 in
theorem key_walk (s : Stg) (w : World) (a0 a1 : Option Addr) (c0 c1 : Nat) (hn : s.at_.length ≤ 1000) (hm : s.mail.length ≤ 1000) (hat : ∀ a ∈ s.at_, 0 ≤ a ∧ a < 100) (hj : ∀ m ∈ s.mail, (joinU m).length ≤ 10000)
    (h0 : 0 < s.at_.length → ∃ bk off, a0 = some ⟨bk, off, none⟩ ∧ bk < w.heap.size ∧ ∀ k (h : k < s.at_.length), w.cell? ⟨bk, off + k, none⟩ = some (.int .i64 s.at_[k]))
    (h1 : 0 < s.mail.length → ∃ bk off, a1 = some ⟨bk, off, none⟩ ∧ bk < w.heap.size ∧ ∀ k (h : k < s.mail.length), ∃ am cm, w.cell? ⟨bk, off + k, none⟩ = some (.slice am s.mail[k].length cm) ∧
      ∀ wr, Below w.heap.size w wr → Calls Tryd.prog 55 #[.slice am s.mail[k].length cm, .string ⟨#[44]⟩] wr fun e w' => e = .returned (.string ⟨(joinU s.mail[k]).toArray⟩) ∧ Below wr.heap.size wr w') :
    Calls Tryd.prog 28 #[.agg #[.slice a0 s.at_.length c0, .slice a1 s.mail.length c1]] w fun e w' => e = .returned (.string ⟨(keyG s).toArray⟩) ∧ Below w.heap.size w w' := by
  have H0 := bld_hidJ h0
  have H1 := bld_hidJ h1
  have HA := bld_hidJ hat
  have HJ := bld_hidJ hj
  clear h0 h1 hat hj
  go_enter Tryd.func28, Tryd.ntmps28
  go_wp2
  go_loopw [11] (fun i wr => ∃ k : Nat, k ≤ s.at_.length ∧ i = .int .i64 k ∧ Hid (Lib.IsBuilder 98 5 (w.heap.size + 1) (w.heap.size + 1) (Lib.byteCells (atU (s.at_.take k))) wr) ∧ Hid (Below (w.heap.size + 1) (w.alloc (.cells #[.slice a0 s.at_.length c0, .slice a1 s.mail.length c1] 38)) wr)) (fun i wr => s.at_.length - (intOf i).toNat)
  case atStart =>
    refine ⟨0, Nat.zero_le _, rfl, ?_, Below.alloc (Below.refl _ _) (by simp) _⟩
    refine .inl ⟨Nat.le_refl _, .slice none 0 0, ?_, World.ownsRow_nil _ _ _ _, by simp [Value.ownBlock]⟩
    have := heap_alloc_new (w.alloc (.cells #[.slice a0 s.at_.length c0, .slice a1 s.mail.length c1] 38)) (.cells #[.pointer none, .slice none 0 0] 98)
    simpa using this
  case round =>
    obtain ⟨k, hk, rfl, hI, hbw⟩ := hrel
    by_cases hlt : k < s.at_.length
    · obtain ⟨bk, off, rfl, hbk, hc⟩ := H0.out (by omega)
      have hck := hc k hlt
      obtain ⟨q0, q1⟩ := HA.out _ (List.getElem_mem hlt)
      have hcr : wr.cell? ⟨bk, off + k, none⟩ = some (.int .i64 (((s.at_[k]).toNat : Nat) : Int)) := by
        rw [hbw.out.cell (p := ⟨bk, off + k, none⟩) (by simp; omega), show (((s.at_[k]).toNat : Nat) : Int) = s.at_[k] by omega, ← hck]
        exact World.cell?_of_block (Lib.alloc_old w _ bk hbk)
      have hq : (s.at_[k]).toNat < 100 := by omega
      have hnx := atU_succ hlt
      generalize (s.at_[k]).toNat = q at hcr hq hnx
      have hl0 : (atU (s.at_.take k)).length ≤ 3000 := by
        have h1 := atU_len (s.at_.take k)
        rw [List.length_take] at h1; omega
      have hBw : w.heap.size + 1 ≤ wr.heap.size := Nat.le_trans (by simp) hbw.out.size
      have HN := bld_hidJ hnx
      clear hc hck hnx
      go_wp2_with fail
      refine (itoa_w q hq _).mono ?_
      rintro e w1 ⟨rfl, rfl⟩
      go_wp2_with fail
      refine (bld_string _ _ _ ⟨(digs q).toArray⟩ _ hI.out (by have := digs_len q; simp [ByteArray.size, Lib.byteCells_length]; omega) hBw).mono ?_
      rintro e w2 ⟨rfl, h2, hb2⟩
      have H2 := bld_hidJ h2
      have Hb2 := bld_hidJ hb2
      clear h2 hb2
      go_wp2_with fail
      refine (bld_byte _ _ _ 32 _ (.inr H2.out) (by have := digs_len q; simp [ByteArray.size, Lib.byteCells_length, Lib.strCells_length]; omega) (Nat.le_trans hBw Hb2.out.size)).mono ?_
      rintro e w3 ⟨rfl, h3, hb3⟩
      have hcont : Lib.byteCells (atU (s.at_.take k)) ++ Lib.strCells ⟨(digs q).toArray⟩ ++ [Value.int .u8 32] = Lib.byteCells (atU (s.at_.take (k + 1))) := by
        rw [HN.out, Lib.strCells_eq, Lib.byteCells_append, Lib.byteCells_append, List.append_assoc]; rfl
      rw [hcont] at h3
      have H3 := bld_hidJ (Or.inr h3 : Lib.IsBuilder 98 5 (w.heap.size + 1) (w.heap.size + 1) _ w3)
      have Hb3 := bld_hidJ ((hbw.out.trans Hb2.out).trans hb3)
      clear h3 hb3 hcont
      go_wp2
      exact ⟨⟨k + 1, by omega, by go_num, H3, Hb3⟩, by simp [intOf]; omega⟩
    · have hst : wr.cell? ⟨w.heap.size, 1, none⟩ = some (.slice a1 s.mail.length c1) := by
        rw [hbw.out.cell (p := ⟨w.heap.size, 1, none⟩) (by simp), Lib.cell_of_heap (heap_alloc_new w _)]; rfl
      have hke : k = s.at_.length := by omega
      subst hke
      rw [List.take_length] at hI
      have hla : (atU s.at_).length ≤ 3000 := by
        have h1 := atU_len s.at_
        omega
      go_wp2_with fail
      go_loopw [23] (fun i wr => ∃ k : Nat, k ≤ s.mail.length ∧ i = .int .i64 k ∧ Hid (Lib.IsBuilder 98 5 (w.heap.size + 1) (w.heap.size + 1) (Lib.byteCells (atU s.at_ ++ mailU (s.mail.take k))) wr) ∧ Hid (Below (w.heap.size + 1) (w.alloc (.cells #[.slice a0 s.at_.length c0, .slice a1 s.mail.length c1] 38)) wr)) (fun i wr => s.mail.length - (intOf i).toNat)
      case atStart => exact ⟨0, Nat.zero_le _, rfl, bld_hidJ (by simpa [mailU] using hI.out), hbw⟩
      case round =>
        obtain ⟨k, hk2, rfl, hI, hbw⟩ := hrel
        have hBw : w.heap.size + 1 ≤ wr.heap.size := Nat.le_trans (by simp) hbw.out.size
        have hlm : ∀ j, (mailU (s.mail.take j)).length ≤ 10001000 := fun j => by
          have h1 := mailU_len (l := s.mail.take j) fun m hm' => HJ.out m (List.mem_of_mem_take hm')
          have h2 : (s.mail.take j).length ≤ 1000 := by rw [List.length_take]; omega
          have h3 := Nat.mul_le_mul_left 10001 h2
          omega
        have hl0 := hlm k
        by_cases hlt2 : k < s.mail.length
        · obtain ⟨bk, off, rfl, hbk, hc⟩ := H1.out (by omega)
          obtain ⟨am, cm, hck, hjn⟩ := hc k hlt2
          have hcr : wr.cell? ⟨bk, off + k, none⟩ = some (.slice am s.mail[k].length cm) := by
            rw [hbw.out.cell (p := ⟨bk, off + k, none⟩) (by simp; omega), ← hck]
            exact World.cell?_of_block (Lib.alloc_old w _ bk hbk)
          have hl1 := HJ.out _ (List.getElem_mem hlt2)
          have hnx := mailU_succ hlt2
          have HJn := bld_hidJ hjn
          generalize s.mail[k] = m at hcr hl1 hnx HJn
          have HN := bld_hidJ hnx
          clear hc hck hnx hjn
          go_wp2_with fail
          refine (bld_byte _ _ _ 124 _ hI.out (by simp [Lib.byteCells_length]; omega) hBw).mono ?_
          rintro e w1 ⟨rfl, h1, hb1⟩
          have H1' := bld_hidJ h1
          have Hb1 := bld_hidJ (hbw.out.trans hb1)
          clear h1 hb1
          have Hw1 : Hid (Below w.heap.size w w1) := bld_hidJ (((Below.refl w.heap.size w).alloc (Nat.le_refl _) _).trans (Hb1.out.mono (Nat.le_succ _)))
          go_wp2_with fail
          refine (HJn.out _ Hw1.out).mono ?_
          rintro e w2 ⟨rfl, hb2⟩
          have hBw1 : w.heap.size + 1 ≤ w1.heap.size := Nat.le_trans (by simp) Hb1.out.size
          have Hb2 := bld_hidJ (Hb1.out.trans (hb2.mono hBw1))
          have H2 : Hid (Lib.BuilderAt 98 5 (w.heap.size + 1) (w.heap.size + 1) (.pointer (some ⟨w.heap.size + 1, 0, none⟩)) (Lib.byteCells (atU s.at_ ++ mailU (s.mail.take k)) ++ [.int .u8 124]) w2) := bld_hidJ (bld_keep H1'.out hb2)
          clear hb2
          go_wp2_with fail
          refine (bld_string _ _ _ ⟨(joinU m).toArray⟩ _ (.inr H2.out) (by simp [ByteArray.size, Lib.byteCells_length]; omega) (Nat.le_trans (by simp) Hb2.out.size)).mono ?_
          rintro e w3 ⟨rfl, h3, hb3⟩
          have hcont : Lib.byteCells (atU s.at_ ++ mailU (s.mail.take k)) ++ [Value.int .u8 124] ++ Lib.strCells ⟨(joinU m).toArray⟩ = Lib.byteCells (atU s.at_ ++ mailU (s.mail.take (k + 1))) := by
            rw [HN.out, Lib.strCells_eq, show [Value.int .u8 124] = Lib.byteCells [124] from rfl, ← Lib.byteCells_append, ← Lib.byteCells_append]
            simp [List.append_assoc]
          rw [hcont] at h3
          have H3 := bld_hidJ (Or.inr h3 : Lib.IsBuilder 98 5 (w.heap.size + 1) (w.heap.size + 1) _ w3)
          have Hb3 := bld_hidJ (Hb2.out.trans hb3)
          clear h3 hb3 hcont
          go_wp2
          exact ⟨⟨k + 1, by omega, by go_num, H3, Hb3⟩, by simp [intOf]; omega⟩
        · have hke : k = s.mail.length := by omega
          subst hke
          rw [List.take_length] at hI
          go_wp2_with fail
          refine (bld_Builder_String_any (w.heap.size + 1) (w.heap.size + 1) (atU s.at_ ++ mailU s.mail) wr hI.out hBw).mono ?_
          rintro e w5 ⟨rfl, hb5⟩
          have Hb5 := bld_hidJ (((Below.refl w.heap.size w).alloc (Nat.le_refl _) (.cells #[.slice a0 s.at_.length c0, .slice a1 s.mail.length c1] 38)).trans ((hbw.out.trans hb5).mono (Nat.le_succ _)))
          clear hb5
          go_wp2
          go_ret
          exact ⟨rfl, Hb5.out⟩
/-- The words of a queue, joined. -/
theorem join_any {w : World} {M : Nat → Prop} {v : Value} {m : List ByteArray} (h : RepC w M v (namesT m)) (hj : (joinU m).length ≤ 10000) (hml : m.length ≤ 1000) :
    ∃ am cm, v = .slice am m.length cm ∧ ∀ wr, Below w.heap.size w wr → Calls Tryd.prog 55 #[.slice am m.length cm, .string ⟨#[44]⟩] wr fun e w' => e = .returned (.string ⟨(joinU m).toArray⟩) ∧ Below wr.heap.size wr w' := by
  cases h with
  | @slice nn sz xs ad len cap u hlen hcap hmax hnn hszs had hrep =>
    simp only [List.length_map] at hlen had
    subst hlen
    refine ⟨ad, cap, rfl, fun wr hb => ?_⟩
    by_cases h0 : 0 < m.length
    · obtain ⟨⟨bk, off, sp⟩, rfl, rfl, hbk, _, hc⟩ := had h0
      refine bld_strings_Join bk off cap m ⟨#[44]⟩ wr (fun j x hx => ?_) (Nat.lt_of_lt_of_le hbk hb.size) (by omega) hcap (by have := hj; simp only [joinU] at this; exact Nat.le_trans this (by omega))
      have h1 := hc j [.str x] (by simp [hx]) 0 (.str x) rfl
      have h2 := hrep j [.str x] (by simp [hx]) 0 (.str x) rfl
      rw [RepC.str_inv h2] at h1
      rw [hb.cell (p := ⟨bk, off + j, none⟩) hbk]
      simpa [add_mk] using h1
    · have hm0 : m = [] := by cases m with
        | nil => rfl
        | cons a r => simp at h0
      subst hm0
      exact (bld_strings_Join_none ad cap ⟨#[44]⟩ wr).mono fun e w' ⟨he, hw⟩ => ⟨he, hw ▸ Below.refl _ _⟩

structure KeyOk (s : Stg) : Prop where
  n : s.at_.length ≤ 1000
  m : s.mail.length ≤ 1000
  at_ : ∀ a ∈ s.at_, 0 ≤ a ∧ a < 100
  q : ∀ m ∈ s.mail, m.length ≤ 1000 ∧ (joinU m).length ≤ 10000
theorem key_c (s : Stg) (hk : KeyOk s) : Con Tryd.prog 28 [] [Ag s.cs] (Rv (.str ⟨(keyG s).toArray⟩)) [] := by
  refine ⟨callOK (c := _) Tryd.func28 rfl rfl, fun w M0 H Z vs hpre hargs => ?_⟩
  obtain ⟨v, rfl⟩ : ∃ v, vs = [v] := by
    match vs, hargs.1 with
    | [v], _ => exact ⟨v, rfl⟩
  obtain ⟨u, hu, hr⟩ := hargs.2 0 _ rfl
  simp only [List.getElem?_cons_zero, Option.some.injEq] at hu
  subst hu
  obtain ⟨av, rfl, has, hc⟩ := hr
  obtain ⟨v0, h0, r0⟩ := hc 0 _ rfl
  obtain ⟨v1, h1, r1⟩ := hc 1 _ rfl
  have has2 : av = #[v0, v1] := by
    obtain ⟨l⟩ := av
    match l, has with
    | [x, y], _ => simp at h0 h1; subst h0; subst h1; rfl
  subst has2
  have r0 : RepC w _ v0 (intsT s.at_) := r0
  have r1 : RepC w _ v1 (mailT s.mail) := r1
  cases r0 with
  | @slice nn sz xs a0 len cap u hlen hcap hmax hnn hszs had hrep =>
  cases r1 with
  | @slice nn' sz' xs' a1 len' cap' u' hlen' hcap' hmax' hnn' hszs' had' hrep' =>
    simp only [List.length_map] at hlen hlen' had had'
    subst hlen
    subst hlen'
    refine (key_walk s w a0 a1 cap cap' hk.n hk.m hk.at_ (fun m hm => (hk.q m hm).2) (fun hp => ?_) (fun hp => ?_)).mono ?_
    · obtain ⟨⟨bk, off, sp⟩, rfl, rfl, hbk, _, hc⟩ := had hp
      refine ⟨bk, off, rfl, hbk, fun k hkl => ?_⟩
      have h1 := hc k [.int .i64 s.at_[k]] (by simp [hkl]) 0 _ rfl
      have h2 := hrep k [.int .i64 s.at_[k]] (by simp [hkl]) 0 _ rfl
      rw [RepC.int_inv h2] at h1
      simpa [add_mk] using h1
    · obtain ⟨⟨bk, off, sp⟩, rfl, rfl, hbk, _, hc⟩ := had' hp
      refine ⟨bk, off, rfl, hbk, fun k hkl => ?_⟩
      have h1 := hc k [namesT s.mail[k]] (by simp [hkl]) 0 _ rfl
      have h2 := hrep' k [namesT s.mail[k]] (by simp [hkl]) 0 _ rfl
      obtain ⟨g1, g2⟩ := hk.q _ (List.getElem_mem hkl)
      obtain ⟨am, cm, e, hj⟩ := join_any h2 g2 g1
      rw [e] at h1
      exact ⟨am, cm, by simpa [add_mk] using h1, hj⟩
    · rintro e w' ⟨rfl, hb⟩
      exact ⟨_, rfl, ⟨hb.os, hb.tape, hb.output, hb.size, fun k hk _ => hb.block k hk⟩, fun p hp => by simp [preMM] at hp, RepC.str _⟩
end Go.Sy

/- Contracts: probe.full, probe.way. -/
namespace Go.Sy
open Go.Proofs
set_option maxRecDepth 100000
attribute [local irreducible] SOps Goes DOps EOps FOps

abbrev lensS (s : Stg) : List Nat := s.mail.map List.length
theorem full_c (s : Stg) : Con Tryd.prog 29 [] [Ag s.cs] (Rv (.bool (fullL (lensS s)))) [] := by
  refine con_of (c := _) Tryd.func29 rfl rfl rfl (by decide) fun w M0 H Z => ?_
  refine g_seq ?_
  repeat' (first
   | refine gc_ rfl ?_
   | (refine g_region ?_; refine run_ th rfl ?_)
   | (refine g_drawC mix rfl rfl ?_; refine drun_ th rfl ?_)
   | (refine g_drawEC mix rfl rfl ?_; refine erun_ th rfl ?_)
   | refine SOps.nil ?_
   | refine DOps.nil ?_
   | refine EOps.nil ?_ rfl rfl
   | (refine s_split rfl rfl (fun hb => ?_) (fun hb => ?_) <;> (try simp only [hbL] at hb) <;> first | (exfalso; omega) | refine run_ th rfl ?_)
   | (refine d_split rfl rfl rfl (fun hb => ?_) (fun hb => ?_) <;> (try simp only [hbL] at hb) <;> first | (exfalso; omega) | refine drun_ th rfl ?_)
   | (refine g_if rfl (fun hb => ?_) (fun hb => ?_) <;> (try simp only [hbL] at hb) <;> (try (exfalso; omega))))
  refine g_len 6 rfl fun hll => ?_
  simp only [List.length_map] at hll
  refine g_loop1 (fun k : Nat => k ≤ s.mail.length ∧ ∀ i (h : i < k) (h' : i < s.mail.length), ¬ (64 ≤ s.mail[i].length))
    (fun k => [(6, .v (C1 (mailT s.mail))), (7, .v (C1 (.int .i64 (s.mail.length : Int)))), (8, .v (C1 (.int .i64 (k : Int))))])
    (fun _ => []) (fun k => s.mail.length - k) 0 ⟨Nat.zero_le _, fun i h => by omega⟩
    (fun a w h => h.sub (by exact ⟨⟨_, rfl, .refl _⟩, ⟨_, rfl, le_int (by simp)⟩, ⟨_, rfl, le_int rfl⟩, trivial⟩) (by exact trivial) rfl rfl rfl) (fun k hk ih => ?_)
  obtain ⟨hk, ha⟩ := hk
  by_cases hlt : k < s.mail.length
  · have hx : (s.mail.map fun m => [namesT m])[k]? = some [namesT s.mail[k]] := by simp [hlt]
    repeat' (first
     | refine gc_ rfl ?_
     | (refine g_region ?_; refine run_ th rfl ?_)
     | (refine g_drawC mix rfl rfl ?_; refine drun_ th rfl ?_)
     | (refine g_drawEC mix rfl rfl ?_; refine erun_ th rfl ?_)
     | refine SOps.nil ?_
     | refine DOps.nil ?_
     | refine EOps.nil ?_ rfl rfl
     | (refine s_split rfl rfl (fun hb => ?_) (fun hb => ?_) <;> (try simp only [hbL] at hb) <;> first | (exfalso; omega) | refine run_ th rfl ?_)
     | (refine d_split rfl rfl rfl (fun hb => ?_) (fun hb => ?_) <;> (try simp only [hbL] at hb) <;> first | (exfalso; omega) | refine drun_ th rfl ?_)
     | (refine g_if rfl (fun hb => ?_) (fun hb => ?_) <;> (try simp only [hbL] at hb) <;> (try (exfalso; omega)))
     | refine g_endL th Tryd.func29 (.inr ⟨_, rfl⟩) rfl rfl rfl ?_ rfl
     | (refine s_idx th rfl rfl rfl rfl rfl rfl rfl rfl rfl k _ rfl hx ?_; refine run_ th rfl ?_)
     | (refine s_add rfl rfl rfl rfl rfl rfl (by omega) ?_; refine run_ th rfl ?_))
    · have hb' : 64 ≤ s.mail[k].length := by omega
      rw [show fullL (lensS s) = true by
        simp only [fullL, List.any_eq_true, decide_eq_true_eq]
        exact ⟨_, List.mem_map_of_mem (List.getElem_mem hlt), hb'⟩]
      exact .refl _
    · exact g_sub (by exact ⟨⟨_, rfl, .refl _⟩, ⟨_, rfl, .refl _⟩, ⟨_, rfl, le_int (by omega)⟩, trivial⟩) (by exact trivial) rfl rfl rfl (ih (k + 1) ⟨hlt, fun i h h' => by
        by_cases hik : i = k
        · subst hik; omega
        · exact ha i (by omega) h'⟩ (by omega))
  · have hke : k = s.mail.length := by omega
    subst hke
    repeat' (first
     | refine gc_ rfl ?_
     | (refine g_region ?_; refine run_ th rfl ?_)
     | (refine g_drawC mix rfl rfl ?_; refine drun_ th rfl ?_)
     | (refine g_drawEC mix rfl rfl ?_; refine erun_ th rfl ?_)
     | refine SOps.nil ?_
     | refine DOps.nil ?_
     | refine EOps.nil ?_ rfl rfl
     | (refine s_split rfl rfl (fun hb => ?_) (fun hb => ?_) <;> (try simp only [hbL] at hb) <;> first | (exfalso; omega) | refine run_ th rfl ?_)
     | (refine d_split rfl rfl rfl (fun hb => ?_) (fun hb => ?_) <;> (try simp only [hbL] at hb) <;> first | (exfalso; omega) | refine drun_ th rfl ?_)
     | (refine g_if rfl (fun hb => ?_) (fun hb => ?_) <;> (try simp only [hbL] at hb) <;> (try (exfalso; omega)))
     | refine g_endL th Tryd.func29 (.inr ⟨_, rfl⟩) rfl rfl rfl ?_ rfl)
    rw [show fullL (lensS s) = false by
      simp only [fullL, List.any_eq_false, decide_eq_true_eq, List.mem_map, forall_exists_index, and_imp]
      rintro x m hm rfl
      obtain ⟨i, hi, rfl⟩ := List.mem_iff_getElem.1 hm
      exact ha i hi hi]
    exact .refl _

abbrev fndT (f : Fnd Stg) : List CT := [intsT f.s.at_, mailT f.s.mail, .int .i64 f.from_, .int .i64 f.by_]
abbrev allT (l : List (Fnd Stg)) : List (List CT) := l.map fndT
/-- Each was found from one that was found earlier. -/
def WayOk (all : List (Fnd Stg)) : Prop := ∀ (j : Nat) (f : Fnd Stg), all[j]? = some f → f.from_ < (j : Int)
theorem wayF_fuel {all : List (Fnd Stg)} (h : WayOk all) : ∀ (f g at_ : Nat) (out : List Int), at_ < f → at_ < g → wayF all f at_ out = wayF all g at_ out
  | 0, _, _, _, h1, _ => by omega
  | _, 0, _, _, _, h2 => by omega
  | f + 1, g + 1, at_, out, h1, h2 => by
    simp only [wayF]
    cases hx : all[at_]? with
    | none => rfl
    | some y =>
      have := h at_ y hx
      simp only
      split
      · rfl
      · exact wayF_fuel h f g _ _ (by omega) (by omega)

set_option maxHeartbeats 4000000 in
theorem way_c (all : List (Fnd Stg)) (at0 : Nat) (hat : at0 < all.length) (hlen : all.length ≤ 1000000) (hw : WayOk all) :
    ConO Tryd.prog 30 [C1 (.slice false 4 (allT all)), C1 (.int .i64 (at0 : Int))] (fun _ : Value => True) (fun v => .v (C1 (.val v))) (fun v => [(3, 1, [(v, irow (wayOf all at0))])]) := by
  refine conO_of (c := _) Tryd.func30 rfl rfl rfl (by decide) fun w M0 H => ?_
  repeat' (first
   | refine gc_ rfl ?_
   | (refine g_region ?_; refine run_ th rfl ?_)
   | (refine g_drawC mix rfl rfl ?_; refine drun_ th rfl ?_)
   | (refine g_drawEC mix rfl rfl ?_; refine erun_ th rfl ?_)
   | refine SOps.nil ?_
   | refine DOps.nil ?_
   | refine EOps.nil ?_ rfl rfl
   | (refine s_split rfl rfl (fun hb => ?_) (fun hb => ?_) <;> (try simp only [hbL] at hb) <;> first | (exfalso; omega) | refine run_ th rfl ?_)
   | (refine d_split rfl rfl rfl (fun hb => ?_) (fun hb => ?_) <;> (try simp only [hbL] at hb) <;> first | (exfalso; omega) | refine drun_ th rfl ?_)
   | (refine g_if rfl (fun hb => ?_) (fun hb => ?_) <;> (try simp only [hbL] at hb) <;> (try (exfalso; omega))))
  refine g_adopt 5 200 3 1 rfl rfl rfl ?_
  refine g_loop2 (fun (at_ : Nat) (out : List Int) => at_ ≤ at0 ∧ out.length + at_ ≤ at0 ∧ wayF all (at_ + 1) at_ out = wayOf all at0)
    (fun at_ _ => [(0, .v (C1 (.slice false 4 (allT all)))), (1, .v (C1 (.int .i64 (at_ : Int)))), (5, .v (.one (.own 200)))])
    (fun _ out => [(200, .arr false 3 1 (irow out))]) (fun at_ _ => at_) at0 [] ⟨Nat.le_refl _, by simp, rfl⟩
    (fun a w h => h.sub (by exact ⟨⟨_, rfl, .refl _⟩, ⟨_, rfl, .refl _⟩, ⟨_, rfl, .refl _⟩, trivial⟩) (by exact ⟨⟨_, rfl, .refl _⟩, trivial⟩) rfl rfl rfl) (fun at_ out hk ih => ?_)
  obtain ⟨h1, h2, h3⟩ := hk
  have hlt : at_ < all.length := by omega
  have hx : (allT all)[at_]? = some (fndT all[at_]) := by simp [hlt]
  have hwk := hw at_ _ (List.getElem?_eq_getElem hlt)
  simp only [wayF, List.getElem?_eq_getElem hlt] at h3
  generalize all[at_] = f at hx hwk h3
  by_cases hf : f.from_ < 0
  · rw [if_pos hf] at h3
    repeat' (first
     | refine gc_ rfl ?_
     | (refine g_region ?_; refine run_ th rfl ?_)
     | (refine g_drawC mix rfl rfl ?_; refine drun_ th rfl ?_)
     | (refine g_drawEC mix rfl rfl ?_; refine erun_ th rfl ?_)
     | refine SOps.nil ?_
     | refine DOps.nil ?_
     | refine EOps.nil ?_ rfl rfl
     | (refine s_split rfl rfl (fun hb => ?_) (fun hb => ?_) <;> (try simp only [hbL] at hb) <;> first | (exfalso; omega) | refine run_ th rfl ?_)
     | (refine d_split rfl rfl rfl (fun hb => ?_) (fun hb => ?_) <;> (try simp only [hbL] at hb) <;> first | (exfalso; omega) | refine drun_ th rfl ?_)
     | (refine g_if rfl (fun hb => ?_) (fun hb => ?_) <;> (try simp only [hbL] at hb) <;> (try (exfalso; omega)))
     | (refine s_idx th rfl rfl rfl rfl rfl rfl rfl rfl rfl at_ _ rfl hx ?_; refine run_ th rfl ?_))
    all_goals first
      | (exfalso; omega)
      | skip
    refine g_toPool 200 rfl rfl fun v => ?_
    rw [h3]
    exact g_endO th Tryd.func30 [200] v (.inr ⟨_, rfl⟩) rfl rfl rfl rfl rfl rfl trivial
  · rw [if_neg hf] at h3
    repeat' (first
     | refine gc_ rfl ?_
     | (refine g_region ?_; refine run_ th rfl ?_)
     | (refine g_drawC mix rfl rfl ?_; refine drun_ th rfl ?_)
     | (refine g_drawEC mix rfl rfl ?_; refine erun_ th rfl ?_)
     | refine SOps.nil ?_
     | refine DOps.nil ?_
     | refine EOps.nil ?_ rfl rfl
     | (refine s_split rfl rfl (fun hb => ?_) (fun hb => ?_) <;> (try simp only [hbL] at hb) <;> first | (exfalso; omega) | refine run_ th rfl ?_)
     | (refine d_split rfl rfl rfl (fun hb => ?_) (fun hb => ?_) <;> (try simp only [hbL] at hb) <;> first | (exfalso; omega) | refine drun_ th rfl ?_)
     | (refine g_if rfl (fun hb => ?_) (fun hb => ?_) <;> (try simp only [hbL] at hb) <;> (try (exfalso; omega)))
     | (refine s_idx th rfl rfl rfl rfl rfl rfl rfl rfl rfl at_ _ rfl hx ?_; refine run_ th rfl ?_)
     | (refine s_appendL th rfl rfl rfl rfl rfl rfl rfl rfl rfl rfl rfl rfl rfl rfl rfl (fun q hq c hc => by simp at hq; obtain ⟨a, _, rfl⟩ := hq; simp at hc; subst hc; rfl) (by constructor <;> simp <;> omega) ?_; refine run_ th rfl ?_))
    all_goals first
      | (exfalso; omega)
      | skip
    have hfe : f.from_ = ((f.from_.toNat : Nat) : Int) := by omega
    have hih := ih f.from_.toNat (f.by_ :: out) ⟨by omega, by simp only [List.length_cons]; omega, by
      rw [← h3]; exact wayF_fuel hw _ _ _ _ (by omega) (by omega)⟩ (by omega)
    refine g_sub (tm' := [(0, .v (C1 (.slice false 4 (allT all)))), (1, .v (C1 (.int .i64 ((f.from_.toNat : Nat) : Int)))), (5, .v (.one (.own 17)))]) (mm' := [(17, .arr false 3 1 (irow (f.by_ :: out)))])
      (by exact ⟨⟨_, rfl, .refl _⟩, ⟨_, rfl, le_int hfe⟩, ⟨_, rfl, .refl _⟩, trivial⟩) (by exact ⟨⟨_, rfl, .refl _⟩, trivial⟩) rfl rfl rfl ?_
    refine g_toPool 17 rfl rfl fun v => ?_
    refine g_ownP 17 200 5 rfl rfl rfl rfl rfl rfl rfl ?_
    exact g_sub (by exact ⟨⟨_, rfl, .refl _⟩, ⟨_, rfl, .refl _⟩, ⟨_, rfl, .refl _⟩, trivial⟩) (by exact ⟨⟨_, rfl, .refl _⟩, trivial⟩) rfl rfl rfl hih
end Go.Sy

/- The plain law of the search's keys: equal keys are keys of equal stages. -/
namespace Go.Sy
open Go.Proofs
set_option linter.unusedVariables false

def sepAt (c : UInt8) (r : List UInt8) : Prop := r = [] ∨ ∃ r', r = c :: r'
theorem spl {c : UInt8} : ∀ {u v r s : List UInt8}, c ∉ u → c ∉ v → sepAt c r → sepAt c s → u ++ r = v ++ s → u = v ∧ r = s
  | [], [], r, s, _, _, _, _, h => ⟨rfl, h⟩
  | [], b :: v, r, s, _, hv, hr, _, h => by
    rcases hr with rfl | ⟨r', rfl⟩
    · simp at h
    · simp only [List.nil_append, List.cons_append, List.cons.injEq] at h
      exact absurd (h.1 ▸ List.mem_cons_self) hv
  | a :: u, [], r, s, hu, _, _, hs, h => by
    rcases hs with rfl | ⟨s', rfl⟩
    · simp at h
    · simp only [List.nil_append, List.cons_append, List.cons.injEq] at h
      exact absurd (h.1 ▸ List.mem_cons_self) hu
  | a :: u, b :: v, r, s, hu, hv, hr, hs, h => by
    simp only [List.cons_append, List.cons.injEq] at h
    obtain ⟨h1, h2⟩ := spl (fun hc => hu (List.mem_cons_of_mem _ hc)) (fun hc => hv (List.mem_cons_of_mem _ hc)) hr hs h.2
    exact ⟨by rw [h.1, h1], h2⟩

/-- What a name holds. -/
theorem name_no {l : ByteArray} (h : nameB l = true) : (44 : UInt8) ∉ l.data.toList ∧ (124 : UInt8) ∉ l.data.toList ∧ l.data.toList ≠ [] ∧ l.data.toList.length ≤ 12 := by
  unfold nameB at h
  split at h
  · cases h
  · rename_i c r hc
    simp only [Bool.and_eq_true, decide_eq_true_eq, List.all_eq_true] at h
    obtain ⟨h1, h2, _, h4⟩ := h
    have hno : ∀ x ∈ c :: r, nchB x = true := fun x hx => by
      rcases List.mem_cons.1 hx with rfl | hx
      · simp [nchB, h2]
      · exact h4 x hx
    rw [hc]
    refine ⟨fun hx => ?_, fun hx => ?_, by simp, by simp; omega⟩
    · have := hno _ hx; revert this; decide
    · have := hno _ hx; revert this; decide
theorem digs_no {k : Nat} (h : k < 100) : (32 : UInt8) ∉ digs k := fun hx => (digs_pln h 32 hx).1 rfl

theorem atU_inj : ∀ {l m : List Int} {r s : List UInt8}, l.length = m.length → (∀ a ∈ l, 0 ≤ a ∧ a < 100) → (∀ a ∈ m, 0 ≤ a ∧ a < 100) → atU l ++ r = atU m ++ s → l = m ∧ r = s
  | [], [], r, s, _, _, _, h => ⟨rfl, h⟩
  | [], _ :: _, _, _, hl, _, _, _ => by simp at hl
  | _ :: _, [], _, _, hl, _, _, _ => by simp at hl
  | a :: l, b :: m, r, s, hl, h1, h2, h => by
    obtain ⟨a0, a1⟩ := h1 a List.mem_cons_self
    obtain ⟨b0, b1⟩ := h2 b List.mem_cons_self
    simp only [atU, List.flatMap_cons, List.append_assoc, List.cons_append, List.nil_append] at h
    obtain ⟨e1, e2⟩ := spl (digs_no (show a.toNat < 100 by omega)) (digs_no (show b.toNat < 100 by omega)) (.inr ⟨_, rfl⟩) (.inr ⟨_, rfl⟩) h
    injection e2 with _ e2
    obtain ⟨e3, e4⟩ := atU_inj (by simpa using hl) (fun x hx => h1 x (List.mem_cons_of_mem _ hx)) (fun x hx => h2 x (List.mem_cons_of_mem _ hx)) e2
    have := digs_inj (show a.toNat < 100 by omega) (show b.toNat < 100 by omega) e1
    exact ⟨by rw [e3, show a = b by omega], e4⟩
theorem tail_sep (r : List (List UInt8)) : sepAt 44 (Lib.joinTail [44] r) := by
  cases r with
  | nil => exact .inl rfl
  | cons y r => exact .inr ⟨y ++ Lib.joinTail [44] r, rfl⟩
theorem tail_inj : ∀ {l m : List ByteArray}, (∀ x ∈ l, nameB x = true) → (∀ x ∈ m, nameB x = true) → Lib.joinTail [44] (l.map (·.data.toList)) = Lib.joinTail [44] (m.map (·.data.toList)) → l = m
  | [], [], _, _, _ => rfl
  | [], y :: m, _, _, h => by simp [Lib.joinTail] at h
  | x :: l, [], _, _, h => by simp [Lib.joinTail] at h
  | x :: l, y :: m, h1, h2, h => by
    have e : ∀ (z : ByteArray) (k : List ByteArray), Lib.joinTail [44] ((z :: k).map (·.data.toList)) = 44 :: (z.data.toList ++ Lib.joinTail [44] (k.map (·.data.toList))) := fun z k => rfl
    rw [e, e] at h
    injection h with _ h
    obtain ⟨e1, e2⟩ := spl (name_no (h1 x List.mem_cons_self)).1 (name_no (h2 y List.mem_cons_self)).1 (tail_sep _) (tail_sep _) h
    rw [ba_ext e1, tail_inj (fun z hz => h1 z (List.mem_cons_of_mem _ hz)) (fun z hz => h2 z (List.mem_cons_of_mem _ hz)) e2]
theorem joinU_inj {l m : List ByteArray} (h1 : ∀ x ∈ l, nameB x = true) (h2 : ∀ x ∈ m, nameB x = true) (h : joinU l = joinU m) : l = m := by
  have hne : ∀ (x : ByteArray) (k : List ByteArray), nameB x = true → joinU (x :: k) ≠ [] := fun x k hx e => by
    rw [joinU, List.map_cons, Lib.join_cons] at e
    exact (name_no hx).2.2.1 (List.append_eq_nil_iff.1 e).1
  cases l with
  | nil =>
    cases m with
    | nil => rfl
    | cons y m => exact absurd h.symm (hne y m (h2 y List.mem_cons_self))
  | cons x l =>
    cases m with
    | nil => exact absurd h (hne x l (h1 x List.mem_cons_self))
    | cons y m =>
      rw [joinU, joinU, List.map_cons, List.map_cons, Lib.join_cons, Lib.join_cons] at h
      obtain ⟨e1, e2⟩ := spl (name_no (h1 x List.mem_cons_self)).1 (name_no (h2 y List.mem_cons_self)).1 (tail_sep _) (tail_sep _) h
      rw [ba_ext e1, tail_inj (fun z hz => h1 z (List.mem_cons_of_mem _ hz)) (fun z hz => h2 z (List.mem_cons_of_mem _ hz)) e2]
theorem tail_no : ∀ {l : List ByteArray}, (∀ x ∈ l, nameB x = true) → (124 : UInt8) ∉ Lib.joinTail [44] (l.map (·.data.toList))
  | [], _ => by simp [Lib.joinTail]
  | x :: l, h => by
    have ih := tail_no fun z hz => h z (List.mem_cons_of_mem _ hz)
    have e : Lib.joinTail [44] ((x :: l).map (·.data.toList)) = 44 :: (x.data.toList ++ Lib.joinTail [44] (l.map (·.data.toList))) := rfl
    rw [e]
    simp only [List.mem_cons, List.mem_append, not_or]
    exact ⟨by decide, (name_no (h x List.mem_cons_self)).2.1, ih⟩
theorem joinU_no {l : List ByteArray} (h : ∀ x ∈ l, nameB x = true) : (124 : UInt8) ∉ joinU l := by
  cases l with
  | nil => simp [joinU, Lib.join_nil]
  | cons x l =>
    rw [joinU, List.map_cons, Lib.join_cons, List.mem_append, not_or]
    exact ⟨(name_no (h x List.mem_cons_self)).2.1, tail_no fun z hz => h z (List.mem_cons_of_mem _ hz)⟩
theorem mailU_sep (l : List (List ByteArray)) : sepAt 124 (mailU l) := by
  cases l with
  | nil => exact .inl rfl
  | cons m l => exact .inr ⟨joinU m ++ mailU l, rfl⟩
theorem mailU_inj : ∀ {l m : List (List ByteArray)}, (∀ q ∈ l, ∀ x ∈ q, nameB x = true) → (∀ q ∈ m, ∀ x ∈ q, nameB x = true) → mailU l = mailU m → l = m
  | [], [], _, _, _ => rfl
  | [], y :: m, _, _, h => by simp [mailU] at h
  | x :: l, [], _, _, h => by simp [mailU] at h
  | x :: l, y :: m, h1, h2, h => by
    have e : ∀ (z : List ByteArray) (k : List (List ByteArray)), mailU (z :: k) = 124 :: (joinU z ++ mailU k) := fun z k => rfl
    rw [e, e] at h
    injection h with _ h
    obtain ⟨e1, e2⟩ := spl (joinU_no (h1 x List.mem_cons_self)) (joinU_no (h2 y List.mem_cons_self)) (mailU_sep _) (mailU_sep _) h
    rw [joinU_inj (h1 x List.mem_cons_self) (h2 y List.mem_cons_self) e1, mailU_inj (fun z hz => h1 z (List.mem_cons_of_mem _ hz)) (fun z hz => h2 z (List.mem_cons_of_mem _ hz)) e2]

/-- A stage that a search meets. -/
structure GoodS (b : Bk) (roles : List ByteArray) (s : Stg) : Prop where
  may : mayS b roles s = true
  lab : ∀ m ∈ s.mail, ∀ l ∈ m, nameB l = true
section
variable {b : Bk} {roles : List ByteArray} {s t : Stg}
theorem GoodS.at (h : GoodS b roles s) (hn : b.nodes.length ≤ 100) : ∀ a ∈ s.at_, 0 ≤ a ∧ a < 100 := fun a ha => by
  have hm := h.may
  simp only [mayS, Bool.and_eq_true, List.all_eq_true] at hm
  have := hm.2.2.2.2.2.2.1 a ha
  simp only [atB, Bool.and_eq_true, decide_eq_true_eq] at this
  omega
theorem keyG_inj (hn : b.nodes.length ≤ 100) (hs : GoodS b roles s) (ht : GoodS b roles t) (h : keyG s = keyG t) : s = t := by
  obtain ⟨_, _, l1, _, _⟩ := mayS_at hs.may
  obtain ⟨_, _, l2, _, _⟩ := mayS_at ht.may
  obtain ⟨e1, e2⟩ := atU_inj (by rw [l1, l2]) (hs.at hn) (ht.at hn) h
  have e3 := mailU_inj hs.lab ht.lab e2
  cases s; cases t; simp at e1 e3; rw [e1, e3]
theorem tail_len : ∀ {l : List ByteArray}, (∀ x ∈ l, nameB x = true) → (Lib.joinTail [44] (l.map (·.data.toList))).length ≤ 13 * l.length
  | [], _ => by simp [Lib.joinTail]
  | x :: l, h => by
    have ih := tail_len fun z hz => h z (List.mem_cons_of_mem _ hz)
    have e : Lib.joinTail [44] ((x :: l).map (·.data.toList)) = 44 :: (x.data.toList ++ Lib.joinTail [44] (l.map (·.data.toList))) := rfl
    have := (name_no (h x List.mem_cons_self)).2.2.2
    rw [e]
    simp only [List.length_cons, List.length_append]
    omega
theorem joinU_len {l : List ByteArray} (h : ∀ x ∈ l, nameB x = true) : (joinU l).length ≤ 13 * l.length := by
  cases l with
  | nil => simp [joinU, Lib.join_nil]
  | cons x l =>
    have h1 := tail_len fun z hz => h z (List.mem_cons_of_mem _ hz)
    have := (name_no (h x List.mem_cons_self)).2.2.2
    rw [joinU, List.map_cons, Lib.join_cons, List.length_append, List.length_cons]
    omega
theorem GoodS.key (h : GoodS b roles s) (hn : b.nodes.length ≤ 100) : KeyOk s := by
  obtain ⟨_, h2, h3, h4, _⟩ := mayS_at h.may
  have h5 : roles.length * roles.length ≤ 5 * 5 := Nat.mul_le_mul h2 h2
  refine ⟨by omega, by omega, h.at hn, fun m hm => ?_⟩
  have h6 := mayS_long h.may m hm
  have h7 := joinU_len (h.lab m hm)
  omega
theorem stNd_arm {r : Nat} (hM : mayS b roles s = true) (hr : r < roles.length) {a : Edge} (ha : a ∈ (stNd b s r).arms) : nameB a.label = true := by
  obtain ⟨_, _, _, _, h5⟩ := mayS_at hM
  have hidx := (h5 r hr).idx.2
  simp only [List.getElem?_map, Option.map_eq_some_iff] at hidx
  obtain ⟨x, hx, _⟩ := hidx
  have hx2 : stNd b s r = x := by simp [stNd, hx]
  rw [hx2] at ha
  exact (q_edge (q_node (mayS_book hM) (List.mem_of_getElem? hx)) ha).1
theorem GoodS.next (h : GoodS b roles s) {m : Mv} (hm : m ∈ movesS b roles s) : GoodS b roles (doS b roles s m) := by
  refine ⟨may_do hm, fun q hq l hl => ?_⟩
  obtain ⟨hM, r, t, hc⟩ := mem_moves hm
  have hlab : nameB m.label = true := by
    obtain ⟨a, ha, e⟩ := hc.arm
    rw [← e]; exact stNd_arm hM hc.lt ha
  have hmail : ∀ i, ∀ l ∈ mailAt s i, nameB l = true := fun i l hl => by
    unfold mailAt at hl
    cases hi : s.mail[i]? with
    | none => rw [hi] at hl; simp at hl
    | some q => rw [hi] at hl; exact h.lab q (List.mem_of_getElem? hi) l (by simpa using hl)
  rcases List.mem_or_eq_of_mem_set (show q ∈ s.mail.set (moveQ b roles s m) (moveM b roles s m) from hq) with hq | rfl
  · exact h.lab q hq l hl
  · unfold moveM at hl
    split at hl
    · rcases List.mem_append.1 hl with hl | hl
      · exact hmail _ l hl
      · rw [List.mem_singleton] at hl; rw [hl]; exact hlab
    · exact hmail _ l (List.mem_of_mem_drop hl)
theorem good_begin {roots : List Int} (h : mayS b roles (stg0 roles.length roots) = true) : GoodS b roles (stg0 roles.length roots) :=
  ⟨h, fun m hm l hl => by
    have : m = [] := List.eq_of_mem_replicate hm
    subst this; cases hl⟩
end
end Go.Sy
