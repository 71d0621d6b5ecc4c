/- Contracts: probe.Search. -/
import Derived.Test.YtohalikeabmimaaDoorBk2
import Derived.Test.YtohalikeabmimaaDoorBq1
set_option linter.unusedSimpArgs false
set_option linter.unusedVariables false
set_option linter.unusedSectionVars false
namespace Go.Sy
open Go.Proofs
set_option maxRecDepth 100000
attribute [local irreducible] SOps Goes DOps EOps FOps

instance : DecidableEq Stg := fun s t => decidable_of_iff (s.at_ = t.at_ ∧ s.mail = t.mail) ⟨fun ⟨h1, h2⟩ => by cases s; cases t; simp at h1 h2; rw [h1, h2], fun h => by subst h; exact ⟨rfl, rfl⟩⟩
abbrev sysS (b : Bk) (roles : List ByteArray) : Sys Stg Mv := ⟨movesS b roles, doS b roles, overS b roles, lensS⟩
/-- A report of a search (P14.2). -/
structure Rep where
  states : Int
  whole : Bool
  stuck : Bool
  way : List Int
  long : List Int
abbrev Rep.cs (r : Rep) : List CT := [.int .i64 r.states, .bool r.whole, .bool r.stuck, intsT r.way, intsT r.long]
def repOf (x : Srch Stg) : Rep := ⟨(x.all.length : Int), x.whole, x.stuck, x.way, x.long.map Int.ofNat⟩
def noRep : Rep := ⟨0, false, false, [], []⟩
def searchO (b : Bk) (roles : List ByteArray) (roots : List Int) (most : Int) : Rep × Int :=
  if (beginO b roles roots).2 ≠ 0 ∨ most < 1 ∨ 4000 < most then (noRep, 1400) else (repOf (srchE (sysS b roles) most.toNat (beginO b roles roots).1), 0)
abbrev repR (r : Rep × Int) : ST := .tup [Ag r.1.cs, C1 (.int .i64 r.2)]
theorem begin_ok {b : Bk} {roles : List ByteArray} {roots : List Int} (h : (beginO b roles roots).2 = 0) : (beginO b roles roots).1 = stg0 roles.length roots ∧ mayS b roles (stg0 roles.length roots) = true := by
  unfold beginO at h ⊢
  split at h
  · cases h
  · split at h
    · rename_i h5 hM
      rw [if_neg h5, if_pos hM]; exact ⟨rfl, hM⟩
    · cases h
theorem begin_err {b : Bk} {roles : List ByteArray} {roots : List Int} (h : (beginO b roles roots).2 ≠ 0) : (beginO b roles roots).2 = 1300 := by
  unfold beginO at h ⊢
  split
  · rfl
  · split
    · rename_i h5 hM; rw [if_neg h5, if_pos hM] at h; exact absurd rfl h
    · rfl

def keyBS (s : Stg) : ByteArray := ⟨(keyG s).toArray⟩
theorem le_mo {o o' : MO} (h : o = o') : LeM o o' := h ▸ .refl _
/-- Lengths of which the first q are taken together. -/
def maxTo (q : Nat) (l m : List Nat) : List Nat := maxL (l.take q) (m.take q) ++ l.drop q
theorem maxTo_zero (l m : List Nat) : maxTo 0 l m = l := by simp [maxTo, maxL]
theorem maxTo_full {l m : List Nat} (h : l.length = m.length) : maxTo l.length l m = maxL l m := by
  simp [maxTo, List.take_of_length_le (Nat.le_of_eq h.symm)]
theorem maxTo_len {q : Nat} {l m : List Nat} (h : l.length = m.length) (hq : q ≤ l.length) : (maxTo q l m).length = l.length := by
  rw [maxTo, List.length_append, maxL_len (by simp [h]), List.length_take, List.length_drop]; omega
theorem maxTo_get {q : Nat} {l m : List Nat} (h : l.length = m.length) (hq : q < l.length) : (maxTo q l m)[q]? = some l[q] := by
  rw [maxTo, List.getElem?_append_right (by rw [maxL_len (by simp [h]), List.length_take]; omega), maxL_len (by simp [h]), List.length_take, List.getElem?_drop]
  rw [show q + (q - min q l.length) = q by omega]
  exact List.getElem?_eq_getElem hq
theorem maxTo_set {q : Nat} {l m : List Nat} (h : l.length = m.length) (hq : q < l.length) : (maxTo q l m).set q (max l[q] (m[q]'(by omega))) = maxTo (q + 1) l m := by
  have e1 : (maxL (l.take q) (m.take q)).length = q := by rw [maxL_len (by simp [h]), List.length_take]; omega
  rw [maxTo, maxTo, List.set_append_right _ _ (by omega), e1, Nat.sub_self, List.drop_eq_getElem_cons hq, List.set_cons_zero, List.take_succ_eq_append_getElem hq, List.take_succ_eq_append_getElem (show q < m.length by omega)]
  rw [maxL, maxL, List.zipWith_append (by simp [h])]
  simp
abbrev nrow (l : List Nat) : List (List CT) := l.map fun k : Nat => [CT.int .i64 ((k : Nat) : Int)]
abbrev seMM (b : Bk) (x : Srch Stg) (s : Stg) (vL : Value) (long : List Nat) : MM := [(16, .box [.c (intsT s.at_), .c (mailT s.mail)]), (45, .arr false 71 4 (allT x.all)), (46, .mpo (entF strF (setK (x.all.map fun f => keyBS f.s)))),
  (14, .box [.c (.int .i64 0), .c (.bool x.whole), .c (.bool x.stuck), .c (intsT x.way), .c (.val vL)]), (53, .pool 3 1 [(vL, nrow long)]),
  (4, .box [.c (nodesT b.nodes), .c (namesT b.names), .c (intsT b.roots)]), (8, .box [.c (.int .i64 0), .c (.bool false), .c (.bool false), .c .nils, .c .nils])]
def seMM1 (b : Bk) (x : Srch Stg) (s : Stg) (vL : Value) (l1 : List Nat) (q : Nat) (v : Int) : Nat → Unit → MM
  | 0, _ => seMM b x s vL l1
  | _, _ => updM (seMM b x s vL l1) 53 (.pool 3 1 [(vL, (nrow l1).set q [.int .i64 v])])

section
variable {S M : Type} [DecidableEq S] {Y : Sys S M} {most i : Nat}
theorem addK_snoc (s : S) (m : M) : ∀ (l : List M) (k : Nat) (x : Srch S), addK Y most i s (l ++ [m]) k x = add1 most i (k + l.length) (Y.next s m) (addK Y most i s l k x)
  | [], k, x => rfl
  | a :: l, k, x => by
    rw [List.cons_append, addK, addK_snoc s m l, addK, List.length_cons, show k + 1 + l.length = k + (l.length + 1) by omega]
theorem add1_good {G : S → Prop} {k : Nat} {nx : S} {x : Srch S} (h : ∀ f ∈ x.all, G f.s) (hn : G nx) : ∀ f ∈ (add1 most i k nx x).all, G f.s := by
  unfold add1
  split
  · exact h
  · split
    · exact h
    · intro f hf
      rcases List.mem_append.1 hf with hf | hf
      · exact h f hf
      · rw [List.mem_singleton] at hf; subst hf; exact hn
theorem addK_good {G : S → Prop} (s : S) : ∀ (l : List M) (k : Nat) (x : Srch S), (∀ f ∈ x.all, G f.s) → (∀ m ∈ l, G (Y.next s m)) → ∀ f ∈ (addK Y most i s l k x).all, G f.s
  | [], _, _, h, _ => h
  | m :: l, k, x, h, hl => addK_good s l (k + 1) _ (add1_good h (hl m List.mem_cons_self)) fun m' hm => hl m' (List.mem_cons_of_mem _ hm)
end
/-- A key is met where its stage is. -/
theorem keyBS_inj {s t : Stg} (h : keyBS s = keyBS t) : keyG s = keyG t := by
  have : (keyG s).toArray = (keyG t).toArray := congrArg ByteArray.data h
  simpa using congrArg Array.toList this
theorem met_mem {b : Bk} {roles : List ByteArray} (hn : b.nodes.length ≤ 100) {all : List (Fnd Stg)} {t : Stg} (h : ∀ f ∈ all, GoodS b roles f.s) (ht : GoodS b roles t) :
    keyBS t ∈ all.map (fun f => keyBS f.s) ↔ metB all t = true := by
  unfold metB
  simp only [List.mem_map, decide_eq_true_eq]
  constructor
  · rintro ⟨f, hf, e⟩
    exact ⟨f, hf, keyG_inj hn (h f hf) ht (keyBS_inj e)⟩
  · rintro ⟨f, hf, rfl⟩
    exact ⟨f, hf, rfl⟩
theorem met_look {b : Bk} {roles : List ByteArray} (hn : b.nodes.length ≤ 100) {all : List (Fnd Stg)} {t : Stg} (h : ∀ f ∈ all, GoodS b roles f.s) (ht : GoodS b roles t) :
    lookC (setK (all.map fun f => keyBS f.s)) (keyBS t) (.bool false) = .bool (metB all t) := by
  rw [setK_look]
  congr 1
  rw [Bool.eq_iff_iff]
  simp only [decide_eq_true_eq]
  exact met_mem hn h ht
theorem born_way {Y : Sys Stg Mv} {s0 : Stg} {all : List (Fnd Stg)} (h : AllBorn Y s0 all) : WayOk all := fun j f hf => by
  have hb := h j f hf
  by_cases h0 : j = 0
  · rw [hb.root h0]; subst h0; show (-1 : Int) < ((0 : Nat) : Int); omega
  · obtain ⟨p, k, g, m, h1, _, _, rfl⟩ := hb.child h0
    show ((p : Nat) : Int) < (j : Int)
    omega

set_option maxHeartbeats 16000000 in
theorem search_c (b : Bk) (roles : List ByteArray) (roots : List Int) (most : Int) (hn : b.nodes.length ≤ 100) (hbig : roots.length * 8 ≤ 140737488355328) :
    Con Tryd.prog 11 [] [Ag b.cs, C1 (namesT roles), C1 (intsT roots), C1 (.int .i64 most)] (repR (searchO b roles roots most)) [] := by
  have hbeg := begin_c b roles roots hbig
  by_cases hbad : (beginO b roles roots).2 ≠ 0 ∨ most < 1 ∨ 4000 < most
  · rw [show searchO b roles roots most = (noRep, 1400) by rw [searchO, if_pos hbad]]
    have hb3 : (beginO b roles roots).2 ≠ 0 → (beginO b roles roots).2 = 1300 := begin_err
    refine con_of (c := _) Tryd.func11 rfl rfl rfl (by decide) fun w M0 H Z => ?_
    repeat' (first
     | refine gc_ rfl ?_
     | (refine g_region ?_; refine run_ th rfl ?_)
     | (refine g_drawC mix rfl rfl ?_; refine drun_ th rfl ?_)
     | (refine g_drawEC mix rfl rfl ?_; refine erun_ th rfl ?_)
     | refine SOps.nil ?_
     | refine DOps.nil ?_
     | refine EOps.nil ?_ rfl rfl
     | (refine s_split rfl rfl (fun hb => ?_) (fun hb => ?_) <;> (try simp only [hbL] at hb) <;> first | (exfalso; omega) | refine run_ th rfl ?_)
     | (refine d_split rfl rfl rfl (fun hb => ?_) (fun hb => ?_) <;> (try simp only [hbL] at hb) <;> first | (exfalso; omega) | refine drun_ th rfl ?_)
     | (refine g_if rfl (fun hb => ?_) (fun hb => ?_) <;> (try simp only [hbL] at hb) <;> (try (exfalso; omega)))
     | refine g_endL th Tryd.func11 (.inr ⟨_, rfl⟩) rfl rfl rfl ?_ rfl
     | (refine s_call hbeg [] rfl rfl rfl rfl rfl rfl rfl rfl rfl rfl ?_; refine run_ th rfl ?_))
    all_goals first
      | exact .tup (.cons (.agg (.cons (.refl _) (.cons (.refl _) (.cons (.refl _) (.cons (.c (.nil 1)) (.cons (.c (.nil 1)) .nil)))))) (.cons (.refl _) .nil))
      | (exfalso; omega)
  · rw [show searchO b roles roots most = (repOf (srchE (sysS b roles) most.toNat (beginO b roles roots).1), 0) by rw [searchO, if_neg hbad]]
    simp only [not_or, ne_eq, Decidable.not_not] at hbad
    obtain ⟨he, hm1, hm2⟩ := hbad
    obtain ⟨hs0, hM0⟩ := begin_ok he
    rw [show beginO b roles roots = (stg0 roles.length roots, 0) from Prod.ext hs0 he] at hbeg ⊢
    have hg0 := good_begin hM0
    have hkey0 := key_c _ (hg0.key hn)
    generalize hsd : stg0 roles.length roots = s0 at *
    have hbk := mayS_book hM0
    have hml : s0.mail.length ≤ 25 := by
      obtain ⟨_, h2, _, h4, _⟩ := mayS_at hM0
      have h5 : roles.length * roles.length ≤ 5 * 5 := Nat.mul_le_mul h2 h2
      omega
    have hmN : 1 ≤ most.toNat ∧ most.toNat ≤ 4000 := by omega
    have hmE : most = ((most.toNat : Nat) : Int) := by omega
    refine con_of (c := _) Tryd.func11 rfl rfl rfl (by decide) fun w M0 H Z => ?_
    repeat' (first
     | refine gc_ rfl ?_
     | (refine g_region ?_; refine run_ th rfl ?_)
     | (refine g_drawC mix rfl rfl ?_; refine drun_ th rfl ?_)
     | (refine g_drawEC mix rfl rfl ?_; refine erun_ th rfl ?_)
     | refine SOps.nil ?_
     | refine DOps.nil ?_
     | refine EOps.nil ?_ rfl rfl
     | (refine s_split rfl rfl (fun hb => ?_) (fun hb => ?_) <;> (try simp only [hbL] at hb) <;> first | (exfalso; omega) | refine run_ th rfl ?_)
     | (refine d_split rfl rfl rfl (fun hb => ?_) (fun hb => ?_) <;> (try simp only [hbL] at hb) <;> first | (exfalso; omega) | refine drun_ th rfl ?_)
     | (refine g_if rfl (fun hb => ?_) (fun hb => ?_) <;> (try simp only [hbL] at hb) <;> (try (exfalso; omega)))
     | (refine s_call hbeg [] rfl rfl rfl rfl rfl rfl rfl rfl rfl rfl ?_; refine run_ th rfl ?_)
     | (refine s_call hkey0 [] rfl rfl rfl rfl rfl rfl rfl rfl rfl rfl ?_; refine run_ th rfl ?_)
     | (refine s_putS th (m := []) (.inr rfl) rfl rfl rfl rfl rfl rfl rfl rfl ?_; refine run_ th rfl ?_)
     | (refine s_makeO th rfl rfl rfl rfl rfl rfl rfl rfl rfl rfl rfl s0.mail.length (by simp) (by simp) (by constructor <;> first | omega | (show 8 * _ ≤ _; omega)) ?_; refine run_ th rfl ?_))
    refine g_toPool 53 rfl rfl fun vL => ?_
    refine g_loop1 (fun i : Nat => i ≤ 4000)
      (fun i => [(1, .v (C1 (namesT roles))), (3, .v (C1 (.int .i64 most))), (4, .v (.one (.ptr 4 0))), (8, .v (.one (.ptr 8 0))), (12, .v (.one (.own 45))), (13, .v (.one (.mp 46))), (14, .v (.one (.ptr 14 0))), (15, .v (C1 (.int .i64 (i : Int))))])
      (fun i => (seMM b (srch (sysS b roles) most.toNat s0 i) s0 vL (srch (sysS b roles) most.toNat s0 i).long).tail) (fun i => 4000 - i) 0 (Nat.zero_le _)
      (fun a w h => h.sub (by exact ⟨⟨_, rfl, .refl _⟩, ⟨_, rfl, .refl _⟩, ⟨_, rfl, .refl _⟩, ⟨_, rfl, .refl _⟩, ⟨_, rfl, .refl _⟩, ⟨_, rfl, .refl _⟩, ⟨_, rfl, .refl _⟩, ⟨_, rfl, le_int rfl⟩, trivial⟩)
        (by exact ⟨⟨_, rfl, .nn (.refl _)⟩, ⟨_, rfl, .refl _⟩, ⟨_, rfl, .box (.cons (.refl _) (.cons (.lit _) (.cons (.refl _) (.cons (.c (.nil 1)) (.cons (.refl _) .nil)))))⟩, ⟨_, rfl, le_pool (by simp [srch, nrow, Function.comp_def, List.map_const'])⟩, ⟨_, rfl, .refl _⟩, ⟨_, rfl, .refl _⟩, trivial⟩) rfl rfl rfl) (fun i hi ih => ?_)
    have hborn := srch_born (Y := sysS b roles) (most := most.toNat) (s0 := s0) i
    have hgood := born_ind (G := GoodS b roles) hborn hg0 fun s m h hm => h.next hm
    have hxl := srch_len (Y := sysS b roles) (s0 := s0) hmN.1 i
    have hih := ih (i + 1)
    have hend := srch_end (Y := sysS b roles) (s0 := s0) hmN.1 (k := i)
    rw [srch] at hih
    clear ih
    generalize hxd : srch (sysS b roles) most.toNat s0 i = x at *
    by_cases hlt : i < x.all.length
    · have hfi : x.all[i]? = some x.all[i] := List.getElem?_eq_getElem hlt
      have hgf := hgood i _ hfi
      have hx : (allT x.all)[i]? = some (fndT x.all[i]) := by simp [hlt]
      have hpr : procS (sysS b roles) most.toNat i x = addK (sysS b roles) most.toNat i x.all[i].s (movesS b roles x.all[i].s) 0 (headS (sysS b roles) i x.all[i].s x) := by rw [procS, hfi]
      rw [hpr] at hih
      generalize x.all[i] = f at *
      obtain ⟨_, hr5, _, hfm, _⟩ := mayS_at hgf.may
      obtain ⟨_, _, _, hsm, _⟩ := mayS_at hM0
      have hlq : x.long.length = (lensS f.s).length := by
        have h1 := (srch_long (Y := sysS b roles) (most := most.toNat) (s0 := s0) (fun k j f hf => by
          have h2 := born_ind (G := GoodS b roles) (srch_born (Y := sysS b roles) (most := most.toNat) (s0 := s0) k) hg0 (fun s m h hm => h.next hm) j f hf
          obtain ⟨_, _, _, h3, _⟩ := mayS_at h2.may
          simp [lensS, h3, hsm]) i).1
        rw [hxd] at h1
        rw [h1]; simp [lensS, hfm, hsm]
      repeat' (first
       | refine gc_ rfl ?_
       | (refine g_region ?_; refine run_ th rfl ?_)
       | (refine g_drawC mix rfl rfl ?_; refine drun_ th rfl ?_)
       | (refine g_drawEC mix rfl rfl ?_; refine erun_ th rfl ?_)
       | refine SOps.nil ?_
       | refine DOps.nil ?_
       | refine EOps.nil ?_ rfl rfl
       | (refine s_split rfl rfl (fun hb => ?_) (fun hb => ?_) <;> (try simp only [hbL] at hb) <;> first | (exfalso; omega) | refine run_ th rfl ?_)
       | (refine d_split rfl rfl rfl (fun hb => ?_) (fun hb => ?_) <;> (try simp only [hbL] at hb) <;> first | (exfalso; omega) | refine drun_ th rfl ?_)
       | (refine g_if rfl (fun hb => ?_) (fun hb => ?_) <;> (try simp only [hbL] at hb) <;> (try (exfalso; omega)))
       | (refine s_idxo th rfl rfl rfl rfl rfl rfl rfl rfl rfl rfl i rfl (by rw [List.length_map]; omega) ?_; refine run_ th rfl ?_)
       | (refine s_loada th (fndT f) rfl rfl rfl rfl hx rfl rfl rfl rfl rfl ?_; refine run_ th rfl ?_))
      refine g_loop1 (fun q : Nat => q ≤ f.s.mail.length)
        (fun q => [(1, .v (C1 (namesT roles))), (3, .v (C1 (.int .i64 most))), (4, .v (.one (.ptr 4 0))), (8, .v (.one (.ptr 8 0))), (12, .v (.one (.own 45))), (13, .v (.one (.mp 46))), (14, .v (.one (.ptr 14 0))), (15, .v (C1 (.int .i64 (i : Int)))),
          (16, .v (.one (.ptr 16 0))), (67, .v (C1 (mailT f.s.mail))), (68, .v (C1 (.int .i64 (f.s.mail.length : Int)))), (69, .v (C1 (.int .i64 (q : Int))))])
        (fun q => seMM b x f.s vL (maxTo q x.long (lensS f.s))) (fun q => f.s.mail.length - q) 0 (Nat.zero_le _)
        (fun a w h => h.sub (by exact ⟨⟨_, rfl, .refl _⟩, ⟨_, rfl, .refl _⟩, ⟨_, rfl, .refl _⟩, ⟨_, rfl, .refl _⟩, ⟨_, rfl, .refl _⟩, ⟨_, rfl, .refl _⟩, ⟨_, rfl, .refl _⟩, ⟨_, rfl, .refl _⟩, ⟨_, rfl, .refl _⟩, ⟨_, rfl, .refl _⟩, ⟨_, rfl, le_int (by simp)⟩, ⟨_, rfl, le_int rfl⟩, trivial⟩)
          (by exact ⟨⟨_, rfl, .refl _⟩, ⟨_, rfl, .refl _⟩, ⟨_, rfl, .refl _⟩, ⟨_, rfl, .refl _⟩, ⟨_, rfl, le_pool (by rw [maxTo_zero])⟩, ⟨_, rfl, .refl _⟩, ⟨_, rfl, .refl _⟩, trivial⟩) rfl rfl rfl) (fun q hq ih2 => ?_)
      by_cases hql : q < f.s.mail.length
      · have hxq : (f.s.mail.map fun m => [namesT m])[q]? = some [namesT f.s.mail[q]] := by simp [hql]
        have hlq2 : x.long.length = f.s.mail.length := by simpa [lensS] using hlq
        have hlg : (nrow (maxTo q x.long (lensS f.s)))[q]? = some [.int .i64 ((x.long[q]'(by omega) : Nat) : Int)] := by
          rw [List.getElem?_map, maxTo_get hlq (by omega)]; rfl
        have hln := maxTo_len hlq (show q ≤ x.long.length by omega)
        have hset := maxTo_set hlq (show q < x.long.length by omega)
        repeat' (first
         | (refine g_drawF (ι := Unit) [12] [] (fun _ _ => []) (seMM1 b x f.s vL (maxTo q x.long (lensS f.s)) q (max ((x.long[q]'(by omega) : Nat) : Int) ((f.s.mail[q].map fun s => [CT.str s]).length : Int))) () mix rfl (fun k x hk => by match k, hk with | 0, _ => (refine subG_spec ?_; repeat (first | exact trivial | refine ⟨rfl, ?_⟩))) rfl (fun k x => rfl) rfl rfl (by simp) rfl rfl ?_; refine frun_ th rfl ?_)
         | refine gc_ rfl ?_
         | (refine g_region ?_; refine run_ th rfl ?_)
         | (refine g_drawC mix rfl rfl ?_; refine drun_ th rfl ?_)
         | (refine g_drawEC mix rfl rfl ?_; refine erun_ th rfl ?_)
         | refine SOps.nil ?_
         | refine DOps.nil ?_
         | refine EOps.nil ?_ rfl rfl
         | (refine s_split rfl rfl (fun hb => ?_) (fun hb => ?_) <;> (try simp only [hbL] at hb) <;> first | (exfalso; omega) | refine run_ th rfl ?_)
         | (refine d_split rfl rfl rfl (fun hb => ?_) (fun hb => ?_) <;> (try simp only [hbL] at hb) <;> first | (exfalso; omega) | refine drun_ th rfl ?_)
         | (refine g_if rfl (fun hb => ?_) (fun hb => ?_) <;> (try simp only [hbL] at hb) <;> (try (exfalso; omega)))
         | (refine s_idx th rfl rfl rfl rfl rfl rfl rfl rfl rfl q _ rfl hxq ?_; refine run_ th rfl ?_)
         | (refine f_pidx (r := 53) th rfl rfl rfl rfl rfl rfl rfl rfl rfl rfl rfl 0 rfl q rfl (by rw [List.length_map]; omega) ?_; refine frun_ th rfl ?_)
         | (refine f_pload (r := 53) (j := q) th rfl rfl rfl rfl rfl rfl rfl rfl rfl 0 rfl hlg rfl ?_; refine frun_ th rfl ?_)
         | (refine FOps.nil ⟨Effs.cons rfl (fun x => ?_) Effs.nil, fun v => ?_⟩)
         | (refine ef_pstore (i := 53) th rfl rfl rfl rfl rfl rfl rfl rfl rfl rfl rfl rfl rfl rfl 0 rfl (by rw [List.length_map]; omega) rfl rfl)
         | (refine s_add rfl rfl rfl rfl rfl rfl (by omega) ?_; refine run_ th rfl ?_))
        exact g_sub (by exact ⟨⟨_, rfl, .refl _⟩, ⟨_, rfl, .refl _⟩, ⟨_, rfl, .refl _⟩, ⟨_, rfl, .refl _⟩, ⟨_, rfl, .refl _⟩, ⟨_, rfl, .refl _⟩, ⟨_, rfl, .refl _⟩, ⟨_, rfl, .refl _⟩, ⟨_, rfl, .refl _⟩, ⟨_, rfl, .refl _⟩, ⟨_, rfl, .refl _⟩, ⟨_, rfl, le_int (by omega)⟩, trivial⟩)
          (by exact ⟨⟨_, rfl, .refl _⟩, ⟨_, rfl, .refl _⟩, ⟨_, rfl, .refl _⟩, ⟨_, rfl, .refl _⟩, ⟨_, rfl, le_pool (by
            rw [← hset, nrow, nrow, List.map_set, List.length_map]
            congr 3
            congr 3
            simp only [lensS, List.getElem_map]
            omega)⟩, ⟨_, rfl, .refl _⟩, ⟨_, rfl, .refl _⟩, trivial⟩) rfl rfl rfl (ih2 (q + 1) hql (by omega))
      · have hqe : q = f.s.mail.length := by omega
        have hqe : q = x.long.length := by rw [hqe, hlq]; simp [lensS]
        subst hqe
        rw [maxTo_full hlq]
        have hmv := moves_c b roles f.s (book_few hbk)
        have hfull := full_c f.s
        have hover := over_c b roles f.s
        clear ih2
        repeat' (first
         | refine gc_ rfl ?_
         | (refine g_region ?_; refine run_ th rfl ?_)
         | (refine g_drawC mix rfl rfl ?_; refine drun_ th rfl ?_)
         | (refine g_drawEC mix rfl rfl ?_; refine erun_ th rfl ?_)
         | refine SOps.nil ?_
         | refine DOps.nil ?_
         | refine EOps.nil ?_ rfl rfl
         | (refine s_split rfl rfl (fun hb => ?_) (fun hb => ?_) <;> (try simp only [hbL] at hb) <;> first | (exfalso; omega) | refine run_ th rfl ?_)
         | (refine d_split rfl rfl rfl (fun hb => ?_) (fun hb => ?_) <;> (try simp only [hbL] at hb) <;> first | (exfalso; omega) | refine drun_ th rfl ?_)
         | (refine g_if rfl (fun hb => ?_) (fun hb => ?_) <;> (try simp only [hbL] at hb) <;> (try (exfalso; omega)))
         | (refine s_call hmv [] rfl rfl rfl rfl rfl rfl rfl rfl rfl rfl ?_; refine run_ th rfl ?_))
        refine s_call hfull [] rfl rfl rfl rfl rfl rfl rfl rfl rfl rfl ?_
        refine run_ th rfl ?_
        refine SOps.nil ?_
        generalize hml2 : movesS b roles f.s = ml at *
        refine g_joinC [(1, .v (C1 (namesT roles))), (3, .v (C1 (.int .i64 most))), (4, .v (.one (.ptr 4 0))), (8, .v (.one (.ptr 8 0))), (12, .v (.one (.own 45))), (13, .v (.one (.mp 46))), (14, .v (.one (.ptr 14 0))), (15, .v (C1 (.int .i64 (i : Int)))), (16, .v (.one (.ptr 16 0))), (19, .v (C1 (.slice false 3 (ml.map Mv.cs))))]
          (seMM b (headS (sysS b roles) i f.s x) f.s vL (headS (sysS b roles) i f.s x).long) rfl ?_ (fun hk => ?_)
        · clear hmv hfull hover
          have hyg : ∀ g ∈ (headS (sysS b roles) i f.s x).all, GoodS b roles g.s := fun g hg => by
            rw [headS_all] at hg
            obtain ⟨j, hj, rfl⟩ := List.mem_iff_getElem.1 hg
            exact hgood j _ (List.getElem?_eq_getElem hj)
          have hyl : (headS (sysS b roles) i f.s x).all.length ≤ most.toNat := by rw [headS_all]; exact hxl
          generalize headS (sysS b roles) i f.s x = y at *
          have hmlf : ml.length ≤ 5000000 := by
            rw [← hml2, movesS, if_pos hgf.may]
            have := movesUp_len (book_few hbk) roles f.s roles.length
            omega
          repeat' (first
           | refine gc_ rfl ?_
           | (refine g_region ?_; refine run_ th rfl ?_)
           | (refine g_drawC mix rfl rfl ?_; refine drun_ th rfl ?_)
           | (refine g_drawEC mix rfl rfl ?_; refine erun_ th rfl ?_)
           | refine SOps.nil ?_
           | refine DOps.nil ?_
           | refine EOps.nil ?_ rfl rfl
           | (refine s_split rfl rfl (fun hb => ?_) (fun hb => ?_) <;> (try simp only [hbL] at hb) <;> first | (exfalso; omega) | refine run_ th rfl ?_)
           | (refine d_split rfl rfl rfl (fun hb => ?_) (fun hb => ?_) <;> (try simp only [hbL] at hb) <;> first | (exfalso; omega) | refine drun_ th rfl ?_)
           | (refine g_if rfl (fun hb => ?_) (fun hb => ?_) <;> (try simp only [hbL] at hb) <;> (try (exfalso; omega))))
          refine g_loop1 (fun k : Nat => k ≤ ml.length)
            (fun k => [(1, .v (C1 (namesT roles))), (3, .v (C1 (.int .i64 most))), (4, .v (.one (.ptr 4 0))), (8, .v (.one (.ptr 8 0))), (12, .v (.one (.own 45))), (13, .v (.one (.mp 46))), (14, .v (.one (.ptr 14 0))), (15, .v (C1 (.int .i64 (i : Int)))), (16, .v (.one (.ptr 16 0))),
              (114, .v (C1 (.slice false 3 (ml.map Mv.cs)))), (115, .v (C1 (.int .i64 (ml.length : Int)))), (116, .v (C1 (.int .i64 (k : Int))))])
            (fun k => seMM b (addK (sysS b roles) most.toNat i f.s (ml.take k) 0 y) f.s vL (addK (sysS b roles) most.toNat i f.s (ml.take k) 0 y).long) (fun k => ml.length - k) 0 (Nat.zero_le _)
            (fun a w h => h.sub (by exact ⟨⟨_, rfl, .refl _⟩, ⟨_, rfl, .refl _⟩, ⟨_, rfl, .refl _⟩, ⟨_, rfl, .refl _⟩, ⟨_, rfl, .refl _⟩, ⟨_, rfl, .refl _⟩, ⟨_, rfl, .refl _⟩, ⟨_, rfl, .refl _⟩, ⟨_, rfl, .refl _⟩, ⟨_, rfl, .refl _⟩, ⟨_, rfl, le_int (by simp)⟩, ⟨_, rfl, le_int rfl⟩, trivial⟩)
              (by exact ⟨⟨_, rfl, .refl _⟩, ⟨_, rfl, .refl _⟩, ⟨_, rfl, .refl _⟩, ⟨_, rfl, .refl _⟩, ⟨_, rfl, .refl _⟩, ⟨_, rfl, .refl _⟩, ⟨_, rfl, .refl _⟩, trivial⟩) rfl rfl rfl) (fun k hk ih2 => ?_)
          by_cases hkl : k < ml.length
          · have hmm : ml[k] ∈ movesS b roles f.s := by rw [hml2]; exact List.getElem_mem hkl
            have hxm : (ml.map Mv.cs)[k]? = some (ml[k]).cs := by simp [hkl]
            have hdo := do_c b roles f.s ml[k] (book_few hbk)
            rw [show doO b roles f.s ml[k] = (doS b roles f.s ml[k], 0) by simp [doO, hgf.may, hmm]] at hdo
            have hng := hgf.next hmm
            have hkk := key_c _ (hng.key hn)
            have hzg : ∀ g ∈ (addK (sysS b roles) most.toNat i f.s (ml.take k) 0 y).all, GoodS b roles g.s := addK_good _ _ _ _ hyg fun m hm => hgf.next (by rw [hml2]; exact List.mem_of_mem_take hm)
            have hzl := addK_len (Y := sysS b roles) (most := most.toNat) (i := i) f.s (ml.take k) 0 y hyl
            have hih2 := ih2 (k + 1) hkl (by omega)
            rw [List.take_succ_eq_append_getElem hkl, addK_snoc, List.length_take, Nat.min_eq_left hk, Nat.zero_add] at hih2
            have hlook := met_look hn hzg hng
            clear ih2
            generalize addK (sysS b roles) most.toNat i f.s (ml.take k) 0 y = z at *
            generalize hnx : doS b roles f.s ml[k] = nx at *
            simp only [] at hih2
            rw [hnx] at hih2
            generalize ml[k] = m at *
            have hkk : Con Tryd.prog 28 [] [Ag nx.cs] (Rv (.str (keyBS nx))) [] := hkk
            by_cases hM : metB z.all nx = true
            · rw [add1, if_pos hM] at hih2
              rw [hM] at hlook
              repeat' (first
               | refine gc_ rfl ?_
               | (refine g_region ?_; refine run_ th rfl ?_)
               | (refine g_drawC mix rfl rfl ?_; refine drun_ th rfl ?_)
               | (refine g_drawEC mix rfl rfl ?_; refine erun_ th rfl ?_)
               | refine SOps.nil ?_
               | refine DOps.nil ?_
               | refine EOps.nil ?_ rfl rfl
               | (refine s_split rfl rfl (fun hb => ?_) (fun hb => ?_) <;> (try simp only [hbL] at hb) <;> first | (exfalso; omega) | refine run_ th rfl ?_)
               | (refine d_split rfl rfl rfl (fun hb => ?_) (fun hb => ?_) <;> (try simp only [hbL] at hb) <;> first | (exfalso; omega) | refine drun_ th rfl ?_)
               | (refine g_if rfl (fun hb => ?_) (fun hb => ?_) <;> (try simp only [hbL] at hb) <;> (try (exfalso; omega)))
               | (refine s_idx th rfl rfl rfl rfl rfl rfl rfl rfl rfl k _ rfl hxm ?_; refine run_ th rfl ?_)
               | (refine s_call hdo [] rfl rfl rfl rfl rfl rfl rfl rfl rfl rfl ?_; refine run_ th rfl ?_)
               | (refine s_call hkk [] rfl rfl rfl rfl rfl rfl rfl rfl rfl rfl ?_; refine run_ th rfl ?_)
               | (refine s_lookS th (m := setK (z.all.map fun f => keyBS f.s)) rfl rfl rfl rfl rfl rfl rfl rfl rfl rfl rfl rfl ?_; rw [hlook]; refine run_ th rfl ?_)
               | (refine s_add rfl rfl rfl rfl rfl rfl (by omega) ?_; refine run_ th rfl ?_))
              all_goals exact g_sub (by exact ⟨⟨_, rfl, .refl _⟩, ⟨_, rfl, .refl _⟩, ⟨_, rfl, .refl _⟩, ⟨_, rfl, .refl _⟩, ⟨_, rfl, .refl _⟩, ⟨_, rfl, .refl _⟩, ⟨_, rfl, .refl _⟩, ⟨_, rfl, .refl _⟩, ⟨_, rfl, .refl _⟩, ⟨_, rfl, .refl _⟩, ⟨_, rfl, .refl _⟩, ⟨_, rfl, le_int (by omega)⟩, trivial⟩) (by exact ⟨⟨_, rfl, .refl _⟩, ⟨_, rfl, .refl _⟩, ⟨_, rfl, .refl _⟩, ⟨_, rfl, .refl _⟩, ⟨_, rfl, .refl _⟩, ⟨_, rfl, .refl _⟩, ⟨_, rfl, .refl _⟩, trivial⟩) rfl rfl rfl hih2
            · rw [add1, if_neg hM] at hih2
              have hMf : metB z.all nx = false := by simpa using hM
              rw [hMf] at hlook
              have hnm : keyBS nx ∉ z.all.map fun f => keyBS f.s := fun h => hM ((met_mem hn hzg hng).1 h)
              by_cases hL : z.all.length = most.toNat
              · rw [if_pos hL] at hih2
                repeat' (first
                 | refine gc_ rfl ?_
                 | (refine g_region ?_; refine run_ th rfl ?_)
                 | (refine g_drawC mix rfl rfl ?_; refine drun_ th rfl ?_)
                 | (refine g_drawEC mix rfl rfl ?_; refine erun_ th rfl ?_)
                 | refine SOps.nil ?_
                 | refine DOps.nil ?_
                 | refine EOps.nil ?_ rfl rfl
                 | (refine s_split rfl rfl (fun hb => ?_) (fun hb => ?_) <;> (try simp only [hbL] at hb) <;> first | (exfalso; omega) | refine run_ th rfl ?_)
                 | (refine d_split rfl rfl rfl (fun hb => ?_) (fun hb => ?_) <;> (try simp only [hbL] at hb) <;> first | (exfalso; omega) | refine drun_ th rfl ?_)
                 | (refine g_if rfl (fun hb => ?_) (fun hb => ?_) <;> (try simp only [hbL] at hb) <;> (try (exfalso; omega)))
                 | (refine s_idx th rfl rfl rfl rfl rfl rfl rfl rfl rfl k _ rfl hxm ?_; refine run_ th rfl ?_)
                 | (refine s_call hdo [] rfl rfl rfl rfl rfl rfl rfl rfl rfl rfl ?_; refine run_ th rfl ?_)
                 | (refine s_call hkk [] rfl rfl rfl rfl rfl rfl rfl rfl rfl rfl ?_; refine run_ th rfl ?_)
                 | (refine s_lookS th (m := setK (z.all.map fun f => keyBS f.s)) rfl rfl rfl rfl rfl rfl rfl rfl rfl rfl rfl rfl ?_; rw [hlook]; refine run_ th rfl ?_)
                 | (refine s_add rfl rfl rfl rfl rfl rfl (by omega) ?_; refine run_ th rfl ?_))
                all_goals first
                  | (exfalso; omega)
                  | exact g_sub (by exact ⟨⟨_, rfl, .refl _⟩, ⟨_, rfl, .refl _⟩, ⟨_, rfl, .refl _⟩, ⟨_, rfl, .refl _⟩, ⟨_, rfl, .refl _⟩, ⟨_, rfl, .refl _⟩, ⟨_, rfl, .refl _⟩, ⟨_, rfl, .refl _⟩, ⟨_, rfl, .refl _⟩, ⟨_, rfl, .refl _⟩, ⟨_, rfl, .refl _⟩, ⟨_, rfl, le_int (by omega)⟩, trivial⟩) (by exact ⟨⟨_, rfl, .refl _⟩, ⟨_, rfl, .refl _⟩, ⟨_, rfl, .refl _⟩, ⟨_, rfl, .box (.cons (.refl _) (.cons (by first | exact .refl _ | exact .lit _) (.cons (by first | exact .refl _ | exact .lit _) (.cons (.refl _) (.cons (.refl _) .nil)))))⟩, ⟨_, rfl, .refl _⟩, ⟨_, rfl, .refl _⟩, ⟨_, rfl, .refl _⟩, trivial⟩) rfl rfl rfl hih2
              · rw [if_neg hL] at hih2
                repeat' (first
                 | refine gc_ rfl ?_
                 | (refine g_region ?_; refine run_ th rfl ?_)
                 | (refine g_drawC mix rfl rfl ?_; refine drun_ th rfl ?_)
                 | (refine g_drawEC mix rfl rfl ?_; refine erun_ th rfl ?_)
                 | refine SOps.nil ?_
                 | refine DOps.nil ?_
                 | refine EOps.nil ?_ rfl rfl
                 | (refine s_split rfl rfl (fun hb => ?_) (fun hb => ?_) <;> (try simp only [hbL] at hb) <;> first | (exfalso; omega) | refine run_ th rfl ?_)
                 | (refine d_split rfl rfl rfl (fun hb => ?_) (fun hb => ?_) <;> (try simp only [hbL] at hb) <;> first | (exfalso; omega) | refine drun_ th rfl ?_)
                 | (refine g_if rfl (fun hb => ?_) (fun hb => ?_) <;> (try simp only [hbL] at hb) <;> (try (exfalso; omega)))
                 | (refine s_idx th rfl rfl rfl rfl rfl rfl rfl rfl rfl k _ rfl hxm ?_; refine run_ th rfl ?_)
                 | (refine s_call hdo [] rfl rfl rfl rfl rfl rfl rfl rfl rfl rfl ?_; refine run_ th rfl ?_)
                 | (refine s_call hkk [] rfl rfl rfl rfl rfl rfl rfl rfl rfl rfl ?_; refine run_ th rfl ?_)
                 | (refine s_lookS th (m := setK (z.all.map fun f => keyBS f.s)) rfl rfl rfl rfl rfl rfl rfl rfl rfl rfl rfl rfl ?_; rw [hlook]; refine run_ th rfl ?_)
                 | (refine s_putS th (m := setK (z.all.map fun f => keyBS f.s)) (.inl rfl) rfl rfl rfl rfl rfl rfl rfl rfl ?_; refine run_ th rfl ?_)
                 | (refine s_append th rfl rfl rfl rfl rfl rfl rfl rfl rfl rfl rfl rfl rfl rfl rfl (by constructor <;> simp <;> omega) ?_; refine run_ th rfl ?_)
                 | (refine s_add rfl rfl rfl rfl rfl rfl (by omega) ?_; refine run_ th rfl ?_))
                all_goals first
                  | (exfalso; omega)
                  | exact g_sub (by exact ⟨⟨_, rfl, .refl _⟩, ⟨_, rfl, .refl _⟩, ⟨_, rfl, .refl _⟩, ⟨_, rfl, .refl _⟩, ⟨_, rfl, .refl _⟩, ⟨_, rfl, .refl _⟩, ⟨_, rfl, .refl _⟩, ⟨_, rfl, .refl _⟩, ⟨_, rfl, .refl _⟩, ⟨_, rfl, .refl _⟩, ⟨_, rfl, .refl _⟩, ⟨_, rfl, le_int (by omega)⟩, trivial⟩) (by exact ⟨⟨_, rfl, .refl _⟩, ⟨_, rfl, le_arr13 (by simp)⟩, ⟨_, rfl, le_mo (by rw [setK_put hnm, List.map_append]; rfl)⟩, ⟨_, rfl, .refl _⟩, ⟨_, rfl, .refl _⟩, ⟨_, rfl, .refl _⟩, ⟨_, rfl, .refl _⟩, trivial⟩) rfl rfl rfl hih2
          · have hke : k = ml.length := by omega
            subst hke
            rw [List.take_length]
            repeat' (first
             | refine gc_ rfl ?_
             | (refine g_region ?_; refine run_ th rfl ?_)
             | (refine g_drawC mix rfl rfl ?_; refine drun_ th rfl ?_)
             | (refine g_drawEC mix rfl rfl ?_; refine erun_ th rfl ?_)
             | refine SOps.nil ?_
             | refine DOps.nil ?_
             | refine EOps.nil ?_ rfl rfl
             | (refine s_split rfl rfl (fun hb => ?_) (fun hb => ?_) <;> (try simp only [hbL] at hb) <;> first | (exfalso; omega) | refine run_ th rfl ?_)
             | (refine d_split rfl rfl rfl (fun hb => ?_) (fun hb => ?_) <;> (try simp only [hbL] at hb) <;> first | (exfalso; omega) | refine drun_ th rfl ?_)
             | (refine g_if rfl (fun hb => ?_) (fun hb => ?_) <;> (try simp only [hbL] at hb) <;> (try (exfalso; omega)))
             | (refine s_add rfl rfl rfl rfl rfl rfl (by omega) ?_; refine run_ th rfl ?_))
            exact g_sub (by exact ⟨⟨_, rfl, .refl _⟩, ⟨_, rfl, .refl _⟩, ⟨_, rfl, .refl _⟩, ⟨_, rfl, .refl _⟩, ⟨_, rfl, .refl _⟩, ⟨_, rfl, .refl _⟩, ⟨_, rfl, .refl _⟩, ⟨_, rfl, le_int (by omega)⟩, trivial⟩) (by exact ⟨⟨_, rfl, .refl _⟩, ⟨_, rfl, .refl _⟩, ⟨_, rfl, .refl _⟩, ⟨_, rfl, .refl _⟩, ⟨_, rfl, .refl _⟩, ⟨_, rfl, .refl _⟩, trivial⟩) rfl rfl rfl (hih (by omega) (by omega))
        · by_cases hF : fullL (lensS f.s) = true
          · rw [show headS (sysS b roles) i f.s x = { x with long := maxL x.long (lensS f.s), whole := false } by rw [headS, if_pos hF]] at hk
            rw [hF]
            repeat' (first
             | (exact g_sub (by exact ⟨⟨_, rfl, .refl _⟩, ⟨_, rfl, .refl _⟩, ⟨_, rfl, .refl _⟩, ⟨_, rfl, .refl _⟩, ⟨_, rfl, .refl _⟩, ⟨_, rfl, .refl _⟩, ⟨_, rfl, .refl _⟩, ⟨_, rfl, .refl _⟩, ⟨_, rfl, .refl _⟩, ⟨_, rfl, .refl _⟩, trivial⟩) (by exact ⟨⟨_, rfl, .refl _⟩, ⟨_, rfl, .refl _⟩, ⟨_, rfl, .refl _⟩, ⟨_, rfl, .box (.cons (.refl _) (.cons (by first | exact .refl _ | exact .lit _) (.cons (by first | exact .refl _ | exact .lit _) (.cons (.refl _) (.cons (.refl _) .nil)))))⟩, ⟨_, rfl, .refl _⟩, ⟨_, rfl, .refl _⟩, ⟨_, rfl, .refl _⟩, trivial⟩) rfl rfl rfl hk)
             | refine gc_ rfl ?_
             | (refine g_region ?_; refine run_ th rfl ?_)
             | (refine g_drawC mix rfl rfl ?_; refine drun_ th rfl ?_)
             | (refine g_drawEC mix rfl rfl ?_; refine erun_ th rfl ?_)
             | refine SOps.nil ?_
             | refine DOps.nil ?_
             | refine EOps.nil ?_ rfl rfl
             | (refine s_split rfl rfl (fun hb => ?_) (fun hb => ?_) <;> (try simp only [hbL] at hb) <;> first | (exfalso; omega) | refine run_ th rfl ?_)
             | (refine d_split rfl rfl rfl (fun hb => ?_) (fun hb => ?_) <;> (try simp only [hbL] at hb) <;> first | (exfalso; omega) | refine drun_ th rfl ?_)
             | (refine g_if rfl (fun hb => ?_) (fun hb => ?_) <;> (try simp only [hbL] at hb) <;> (try (exfalso; omega))))
            all_goals (exfalso; revert hb; simp; done)
          · have hF : fullL (lensS f.s) = false := by simpa using hF
            rw [hF]
            by_cases hS : (ml.isEmpty && (!overS b roles f.s && !x.stuck)) = true
            · rw [show headS (sysS b roles) i f.s x = { x with long := maxL x.long (lensS f.s), stuck := true, way := wayOf x.all i } by
                rw [headS, if_neg (by rw [hF]; decide)]
                show (if ((movesS b roles f.s).isEmpty && (!overS b roles f.s && !x.stuck)) = true then _ else _) = _
                rw [hml2, if_pos hS]] at hk
              simp only [Bool.and_eq_true, Bool.not_eq_true', List.isEmpty_iff] at hS
              obtain ⟨hS1, hS2, hS3⟩ := hS
              rw [hS2] at hover
              repeat' (first
               | (refine g_freezeB 300 14 3 rfl rfl rfl rfl rfl rfl rfl ?_)
               | (exact g_sub (by exact ⟨⟨_, rfl, .refl _⟩, ⟨_, rfl, .refl _⟩, ⟨_, rfl, .refl _⟩, ⟨_, rfl, .refl _⟩, ⟨_, rfl, .refl _⟩, ⟨_, rfl, .refl _⟩, ⟨_, rfl, .refl _⟩, ⟨_, rfl, .refl _⟩, ⟨_, rfl, .refl _⟩, ⟨_, rfl, .refl _⟩, trivial⟩) (by exact ⟨⟨_, rfl, .refl _⟩, ⟨_, rfl, .refl _⟩, ⟨_, rfl, .refl _⟩, ⟨_, rfl, .box (.cons (.refl _) (.cons (by first | exact .refl _ | exact .lit _) (.cons (by first | exact .refl _ | exact .lit _) (.cons (.refl _) (.cons (.refl _) .nil)))))⟩, ⟨_, rfl, .refl _⟩, ⟨_, rfl, .refl _⟩, ⟨_, rfl, .refl _⟩, trivial⟩) rfl rfl rfl hk)
               | refine gc_ rfl ?_
               | (refine g_region ?_; refine run_ th rfl ?_)
               | (refine g_drawC mix rfl rfl ?_; refine drun_ th rfl ?_)
               | (refine g_drawEC mix rfl rfl ?_; refine erun_ th rfl ?_)
               | refine SOps.nil ?_
               | refine DOps.nil ?_
               | refine EOps.nil ?_ rfl rfl
               | (refine s_split rfl rfl (fun hb => ?_) (fun hb => ?_) <;> (try simp only [hbL] at hb) <;> first | (exfalso; omega) | refine run_ th rfl ?_)
               | (refine d_split rfl rfl rfl (fun hb => ?_) (fun hb => ?_) <;> (try simp only [hbL] at hb) <;> first | (exfalso; omega) | refine drun_ th rfl ?_)
               | (refine g_if rfl (fun hb => ?_) (fun hb => ?_) <;> (try simp only [hbL] at hb) <;> (try (exfalso; omega)))
               | (refine s_call hover [] rfl rfl rfl rfl rfl rfl rfl rfl rfl rfl ?_; refine run_ th rfl ?_)
               | (refine s_callOL (way_c x.all i hlt (by omega) (born_way hborn)) [300] rfl rfl rfl rfl rfl rfl rfl rfl rfl rfl (fun _ => rfl) (fun _ => rfl) (fun v p hp q hq r hr c hc => by simp at hp; subst hp; simp at hq; subst hq; simp at hr; obtain ⟨z, _, rfl⟩ := hr; simp at hc; subst hc; rfl) (fun v _ => ?_); refine run_ th rfl ?_))
              all_goals first
                | (exfalso; rw [hS3] at hb; cases hb; done)
                | (exfalso; apply hb; rw [hS1]; rfl)
            · rw [show headS (sysS b roles) i f.s x = { x with long := maxL x.long (lensS f.s) } by
                rw [headS, if_neg (by rw [hF]; decide)]
                show (if ((movesS b roles f.s).isEmpty && (!overS b roles f.s && !x.stuck)) = true then _ else _) = _
                rw [hml2, if_neg hS]] at hk
              repeat' (first
               | (exact g_sub (by exact ⟨⟨_, rfl, .refl _⟩, ⟨_, rfl, .refl _⟩, ⟨_, rfl, .refl _⟩, ⟨_, rfl, .refl _⟩, ⟨_, rfl, .refl _⟩, ⟨_, rfl, .refl _⟩, ⟨_, rfl, .refl _⟩, ⟨_, rfl, .refl _⟩, ⟨_, rfl, .refl _⟩, ⟨_, rfl, .refl _⟩, trivial⟩) (by exact ⟨⟨_, rfl, .refl _⟩, ⟨_, rfl, .refl _⟩, ⟨_, rfl, .refl _⟩, ⟨_, rfl, .box (.cons (.refl _) (.cons (by first | exact .refl _ | exact .lit _) (.cons (by first | exact .refl _ | exact .lit _) (.cons (.refl _) (.cons (.refl _) .nil)))))⟩, ⟨_, rfl, .refl _⟩, ⟨_, rfl, .refl _⟩, ⟨_, rfl, .refl _⟩, trivial⟩) rfl rfl rfl hk)
               | refine gc_ rfl ?_
               | (refine g_region ?_; refine run_ th rfl ?_)
               | (refine g_drawC mix rfl rfl ?_; refine drun_ th rfl ?_)
               | (refine g_drawEC mix rfl rfl ?_; refine erun_ th rfl ?_)
               | refine SOps.nil ?_
               | refine DOps.nil ?_
               | refine EOps.nil ?_ rfl rfl
               | (refine s_split rfl rfl (fun hb => ?_) (fun hb => ?_) <;> (try simp only [hbL] at hb) <;> first | (exfalso; omega) | refine run_ th rfl ?_)
               | (refine d_split rfl rfl rfl (fun hb => ?_) (fun hb => ?_) <;> (try simp only [hbL] at hb) <;> first | (exfalso; omega) | refine drun_ th rfl ?_)
               | (refine g_if rfl (fun hb => ?_) (fun hb => ?_) <;> (try simp only [hbL] at hb) <;> (try (exfalso; omega)))
               | (refine s_call hover [] rfl rfl rfl rfl rfl rfl rfl rfl rfl rfl ?_; refine run_ th rfl ?_))
              all_goals
                rename_i q1 q2
                exfalso; apply hS
                have hm0 : ml = [] := by cases ml with
                  | nil => rfl
                  | cons a r => simp at q1; omega
                rw [hm0, q2, hb]; rfl
    · have hxE := hend (by omega)
      rw [← hxE]
      repeat' (first
       | refine gc_ rfl ?_
       | (refine g_region ?_; refine run_ th rfl ?_)
       | (refine g_drawC mix rfl rfl ?_; refine drun_ th rfl ?_)
       | (refine g_drawEC mix rfl rfl ?_; refine erun_ th rfl ?_)
       | refine SOps.nil ?_
       | refine DOps.nil ?_
       | refine EOps.nil ?_ rfl rfl
       | (refine s_split rfl rfl (fun hb => ?_) (fun hb => ?_) <;> (try simp only [hbL] at hb) <;> first | (exfalso; omega) | refine run_ th rfl ?_)
       | (refine d_split rfl rfl rfl (fun hb => ?_) (fun hb => ?_) <;> (try simp only [hbL] at hb) <;> first | (exfalso; omega) | refine drun_ th rfl ?_)
       | (refine g_if rfl (fun hb => ?_) (fun hb => ?_) <;> (try simp only [hbL] at hb) <;> (try (exfalso; omega))))
      refine g_freezeB 53 8 4 rfl rfl rfl rfl rfl rfl rfl ?_
      refine g_endL th Tryd.func11 (.inr ⟨_, rfl⟩) rfl rfl rfl ?_ rfl
      exact .tup (.cons (.agg (.cons (.c (by rw [List.length_map]; exact .refl _)) (.cons (.refl _) (.cons (.refl _) (.cons (.refl _) (.cons (.c (by rw [show (repOf x).long = x.long.map Int.ofNat from rfl, intsT, List.map_map]; exact .refl _)) .nil)))))) (.cons (.refl _) .nil))
end Go.Sy
