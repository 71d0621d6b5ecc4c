/- The plain law of equality: keys of nodes, the coarsest equality, the classes. -/
import Derived.Test.YthjpcefjgmklfaaDoorQa
import Derived.Test.YthjpcefjgmklfaaDoorFd
set_option linter.unusedSimpArgs false
set_option linter.unusedVariables false
set_option linter.unusedSectionVars false
namespace Go.Sy

theorem q_node {b : Bk} (h : bookB b = true) {x : Nd} (hx : x ∈ b.nodes) : nodeB b.nodes.length x = true := by
  simp only [bookB, Bool.and_eq_true] at h
  exact List.all_eq_true.1 h.2.2.2 x hx
theorem q_arms {n : Int} {x : Nd} (h : nodeB n x = true) : x.arms.length ≤ 6 ∧ ∀ i, i < x.arms.length → okAt n x.arms i = true := by
  unfold nodeB at h
  split at h
  · simp only [Bool.and_eq_true, decide_eq_true_eq] at h
    exact ⟨by omega, fun i hi => by omega⟩
  · simp only [Bool.and_eq_true, decide_eq_true_eq] at h
    exact ⟨h.2.2.2.1, fun i hi => List.all_eq_true.1 h.2.2.2.2 i (List.mem_range.2 hi)⟩
theorem q_edge {n : Int} {x : Nd} (h : nodeB n x = true) {e : Edge} (he : e ∈ x.arms) : nameB e.label = true ∧ 0 ≤ e.next ∧ e.next < n ∧ sortB e.kind e.at_ n = true := by
  obtain ⟨i, hi, rfl⟩ := List.mem_iff_getElem.1 he
  have := (q_arms h).2 i hi
  cases i with
  | zero =>
    rw [okAt_zero hi] at this
    simp only [Bool.and_eq_true, decide_eq_true_eq] at this
    exact ⟨this.1, this.2.1, this.2.2.1, this.2.2.2⟩
  | succ j =>
    rw [okAt_succ hi] at this
    simp only [Bool.and_eq_true, decide_eq_true_eq] at this
    exact ⟨this.1, this.2.2.1, this.2.2.2.1, this.2.2.2.2⟩
theorem q_name {s : ByteArray} (h : nameB s = true) : pln s.data.toList := by
  unfold nameB at h
  split at h
  · cases h
  · rename_i c r hs
    simp only [Bool.and_eq_true, List.all_eq_true] at h
    obtain ⟨_, h1, _, h2⟩ := h
    rw [hs]
    have key : ∀ c : UInt8, nchB c = true → c ≠ 32 ∧ c ≠ 44 ∧ c ≠ 58 := by
      intro c hc
      refine ⟨?_, ?_, ?_⟩ <;> rintro rfl <;> revert hc <;> decide
    intro x hx
    rcases List.mem_cons.1 hx with rfl | hx
    · exact key _ (by simp [nchB, h1])
    · exact key _ (h2 x hx)

theorem q_nlen {s : ByteArray} (h : nameB s = true) : s.data.toList.length ≤ 12 := by
  unfold nameB at h
  split at h
  · cases h
  · rename_i c r hs
    simp only [Bool.and_eq_true, decide_eq_true_eq] at h
    rw [hs, List.length_cons]; omega

/-- What equality needs to know of an edge, of a node. -/
structure GE (n : Int) (e : Edge) : Prop where
  lab : pln e.label.data.toList
  ll : e.label.data.toList.length ≤ 12
  k0 : 0 ≤ e.kind
  k6 : e.kind < 6
  nx : 0 ≤ e.next ∧ e.next < n
  at_ : e.kind = 5 → 0 ≤ e.at_ ∧ e.at_ < n
structure GN (n : Int) (x : Nd) : Prop where
  k0 : 0 ≤ x.kind
  k3 : x.kind < 3
  peer : pln x.peer.data.toList
  pl : x.peer.data.toList.length ≤ 12
  len : x.arms.length ≤ 6
  arm : ∀ e ∈ x.arms, GE n e
theorem q_ge {n : Int} {x : Nd} (h : nodeB n x = true) {e : Edge} (he : e ∈ x.arms) : GE n e := by
  obtain ⟨h1, h2, h3, h4⟩ := q_edge h he
  unfold sortB at h4
  split at h4
  · rename_i hk
    simp only [Bool.and_eq_true, decide_eq_true_eq] at h4
    exact ⟨q_name h1, q_nlen h1, by omega, by omega, ⟨h2, h3⟩, fun _ => h4⟩
  · rename_i hk
    simp only [Bool.and_eq_true, decide_eq_true_eq] at h4
    exact ⟨q_name h1, q_nlen h1, by omega, by omega, ⟨h2, h3⟩, fun h => absurd h hk⟩
theorem q_gn {n : Int} {x : Nd} (h : nodeB n x = true) : GN n x := by
  have ha := fun e he => q_ge h (e := e) he
  have hl := (q_arms h).1
  unfold nodeB at h
  split at h
  · simp only [Bool.and_eq_true, decide_eq_true_eq] at h
    refine ⟨by omega, by omega, ?_, by rw [h.1]; simp, hl, ha⟩
    rw [h.1]; intro c hc; cases hc
  · simp only [Bool.and_eq_true, Bool.or_eq_true, decide_eq_true_eq] at h
    exact ⟨by omega, by omega, q_name h.2.1, q_nlen h.2.1, hl, ha⟩

/-! ### Signs and keys -/
def cl (c : List Nat) (x : Int) : Nat := (c[x.toNat]?).getD 0
def relO : Option (List Nat) → Int → Int → Prop
  | none, _, _ => True
  | some c, x, y => cl c x = cl c y
structure FitA (R : Int → Int → Prop) (a e : Edge) : Prop where
  label : a.label = e.label
  kind : a.kind = e.kind
  next : R a.next e.next
  at_ : a.kind = 5 → R a.at_ e.at_
structure FitP (R : Int → Int → Prop) (x y : Nd) : Prop where
  kind : x.kind = y.kind
  peer : x.peer = y.peer
  len : x.arms.length = y.arms.length
  arm : ∀ i (h : i < x.arms.length) (h' : i < y.arms.length), FitA R x.arms[i] y.arms[i]
theorem FitA.mono {R S : Int → Int → Prop} {a e : Edge} (h : FitA R a e) (hn : R a.next e.next → S a.next e.next) (ha : a.kind = 5 → R a.at_ e.at_ → S a.at_ e.at_) : FitA S a e := ⟨h.label, h.kind, hn h.next, fun k => ha k (h.at_ k)⟩

def armU (c : Option (List Nat)) (a : Edge) : List UInt8 :=
  44 :: (a.label.data.toList ++ 32 :: (digs a.kind.toNat ++ (match c with
    | none => []
    | some c => 32 :: (digs (cl c a.next) ++ (if a.kind = 5 then 32 :: digs (cl c a.at_) else [])))))
def armsU (c : Option (List Nat)) (l : List Edge) : List UInt8 := l.flatMap (armU c)
def signU (c : Option (List Nat)) (x : Nd) : List UInt8 := digs x.kind.toNat ++ 32 :: (x.peer.data.toList ++ armsU c x.arms)
def keyU (c : Option (List Nat)) (i : Nat) (x : Nd) : List UInt8 :=
  match c with
  | none => signU none x
  | some l => digs (cl l i) ++ 58 :: signU (some l) x

theorem ba_ext {s t : ByteArray} (h : s.data.toList = t.data.toList) : s = t := ByteArray.ext (Array.ext' h)
theorem cl_lt {c : List Nat} (h : ∀ k ∈ c, k < 100) (x : Int) : cl c x < 100 := by
  unfold cl
  cases hx : c[x.toNat]? with
  | none => simp
  | some k => exact h k (List.mem_of_getElem? hx)
theorem sep44 (r : List UInt8) : sepd (44 :: r) := .inr (.inl rfl)
theorem sep32 (r : List UInt8) : sepd (32 :: r) := .inl rfl
theorem sep58 (r : List UInt8) : sepd (58 :: r) := .inr (.inr rfl)
theorem sep_arms (c : Option (List Nat)) (l : List Edge) : sepd (armsU c l) := by
  cases l with
  | nil => exact trivial
  | cons a l => exact sep44 _

theorem armU_inj {n : Int} {c : Option (List Nat)} (hc : ∀ l, c = some l → ∀ k ∈ l, k < 100) {a e : Edge} (ha : GE n a) (he : GE n e) {r s : List UInt8} (hr : sepd r) (hs : sepd s) (h : armU c a ++ r = armU c e ++ s) : FitA (relO c) a e ∧ r = s := by
  have ak := ha.k0; have ek := he.k0; have a6 := ha.k6; have e6 := he.k6
  simp only [armU, List.cons_append, List.append_assoc, List.cons.injEq, true_and] at h
  obtain ⟨h1, h⟩ := pln_split ha.lab he.lab (sep32 _) (sep32 _) h
  simp only [List.cons.injEq, true_and] at h
  cases c with
  | none =>
    simp only [List.nil_append] at h
    obtain ⟨h2, h⟩ := pln_split (digs_pln (by omega)) (digs_pln (by omega)) hr hs h
    have h2 := digs_inj (by omega) (by omega) h2
    exact ⟨⟨ba_ext h1, by omega, trivial, fun _ => trivial⟩, h⟩
  | some l =>
    simp only [List.cons_append, List.append_assoc] at h
    obtain ⟨h2, h⟩ := pln_split (digs_pln (by omega)) (digs_pln (by omega)) (sep32 _) (sep32 _) h
    have h2 := digs_inj (by omega) (by omega) h2
    have hk : a.kind = e.kind := by omega
    simp only [List.cons.injEq, true_and, hk] at h
    have hl := fun x => cl_lt (hc l rfl) x
    by_cases h5 : e.kind = 5
    · simp only [h5, if_true, List.cons_append] at h
      obtain ⟨h3, h⟩ := pln_split (digs_pln (hl _)) (digs_pln (hl _)) (sep32 _) (sep32 _) h
      simp only [List.cons.injEq, true_and] at h
      obtain ⟨h4, h⟩ := pln_split (digs_pln (hl _)) (digs_pln (hl _)) hr hs h
      exact ⟨⟨ba_ext h1, hk, digs_inj (hl _) (hl _) h3, fun _ => digs_inj (hl _) (hl _) h4⟩, h⟩
    · simp only [h5, if_false, List.nil_append] at h
      obtain ⟨h3, h⟩ := pln_split (digs_pln (hl _)) (digs_pln (hl _)) hr hs h
      exact ⟨⟨ba_ext h1, hk, digs_inj (hl _) (hl _) h3, fun h => absurd (hk ▸ h) h5⟩, h⟩
theorem armU_eq {c : Option (List Nat)} {a e : Edge} (h : FitA (relO c) a e) : armU c a = armU c e := by
  obtain ⟨h1, h2, h3, h4⟩ := h
  unfold armU
  cases c with
  | none => simp only [h1, h2]
  | some l =>
    have h3 : cl l a.next = cl l e.next := h3
    have h4 : a.kind = 5 → cl l a.at_ = cl l e.at_ := h4
    simp only [h1, h2, h3]
    by_cases h5 : e.kind = 5
    · simp only [h5, if_true, h4 (h2.trans h5)]
    · simp only [h5, if_false]
theorem armsU_inj {n : Int} {c : Option (List Nat)} (hc : ∀ l, c = some l → ∀ k ∈ l, k < 100) : ∀ {l m : List Edge}, (∀ e ∈ l, GE n e) → (∀ e ∈ m, GE n e) → armsU c l = armsU c m →
    l.length = m.length ∧ ∀ i (h : i < l.length) (h' : i < m.length), FitA (relO c) l[i] m[i]
  | [], [], _, _, _ => ⟨rfl, fun i h => by simp at h⟩
  | [], e :: m, _, _, h => by simp [armsU, armU] at h
  | a :: l, [], _, _, h => by simp [armsU, armU] at h
  | a :: l, e :: m, ha, he, h => by
    simp only [armsU, List.flatMap_cons] at h
    obtain ⟨h1, h2⟩ := armU_inj hc (ha a List.mem_cons_self) (he e List.mem_cons_self) (sep_arms c l) (sep_arms c m) h
    obtain ⟨h3, h4⟩ := armsU_inj hc (fun x hx => ha x (List.mem_cons_of_mem _ hx)) (fun x hx => he x (List.mem_cons_of_mem _ hx)) h2
    refine ⟨by simp [h3], fun i hi hi' => ?_⟩
    cases i with
    | zero => exact h1
    | succ i => exact h4 i (by simpa using hi) (by simpa using hi')
theorem signU_iff {n : Int} {c : Option (List Nat)} (hc : ∀ l, c = some l → ∀ k ∈ l, k < 100) {x y : Nd} (hx : GN n x) (hy : GN n y) : signU c x = signU c y ↔ FitP (relO c) x y := by
  have x0 := hx.k0; have x3 := hx.k3; have y0 := hy.k0; have y3 := hy.k3
  constructor
  · intro h
    obtain ⟨h1, h⟩ := pln_split (digs_pln (by omega)) (digs_pln (by omega)) (sep32 _) (sep32 _) h
    have h1 := digs_inj (by omega) (by omega) h1
    simp only [List.cons.injEq, true_and] at h
    obtain ⟨h2, h⟩ := pln_split hx.peer hy.peer (sep_arms c _) (sep_arms c _) h
    obtain ⟨h3, h4⟩ := armsU_inj hc hx.arm hy.arm h
    exact ⟨by omega, ba_ext h2, h3, h4⟩
  · rintro ⟨h1, h2, h3, h4⟩
    have : armsU c x.arms = armsU c y.arms := by
      unfold armsU
      rw [List.flatMap_def, List.flatMap_def]
      congr 1
      apply List.ext_getElem (by simpa using h3)
      intro i q1 q2
      simp only [List.getElem_map]
      exact armU_eq (h4 i (by simpa using q1) (by simpa using q2))
    unfold signU
    rw [h1, h2, this]
theorem keyU_iff {n : Int} {c : Option (List Nat)} (hc : ∀ l, c = some l → ∀ k ∈ l, k < 100) {x y : Nd} (hx : GN n x) (hy : GN n y) (i j : Nat) : keyU c i x = keyU c j y ↔ relO c i j ∧ FitP (relO c) x y := by
  rw [← signU_iff hc hx hy]
  cases c with
  | none => simp [keyU, relO]
  | some l =>
    have hl := fun x => cl_lt (hc l rfl) x
    simp only [keyU, relO]
    constructor
    · intro h
      obtain ⟨h1, h⟩ := pln_split (digs_pln (hl _)) (digs_pln (hl _)) (sep58 _) (sep58 _) h
      simp only [List.cons.injEq, true_and] at h
      exact ⟨digs_inj (hl _) (hl _) h1, h⟩
    · rintro ⟨h1, h2⟩
      rw [h1, h2]

/-- The keys of a book's nodes. -/
def keyB (c : Option (List Nat)) (i : Nat) (x : Nd) : ByteArray := ⟨(keyU c i x).toArray⟩
def keysB (b : Bk) (c : Option (List Nat)) : List ByteArray := b.nodes.mapIdx (keyB c)
theorem keysB_length (b : Bk) (c : Option (List Nat)) : (keysB b c).length = b.nodes.length := by simp [keysB]
theorem keysB_get {b : Bk} {i : Nat} (hi : i < b.nodes.length) (c : Option (List Nat)) : (keysB b c)[i]? = some (keyB c i b.nodes[i]) := by simp [keysB, hi]
theorem keyB_iff {n : Int} {c : Option (List Nat)} (hc : ∀ l, c = some l → ∀ k ∈ l, k < 100) {x y : Nd} (hx : GN n x) (hy : GN n y) (i j : Nat) : keyB c i x = keyB c j y ↔ relO c i j ∧ FitP (relO c) x y := by
  rw [← keyU_iff hc hx hy]
  constructor
  · intro h
    simpa [keyB] using congrArg (fun s : ByteArray => s.data.toList) h
  · intro h
    simp [keyB, h]

/-! ### The coarsest equality -/
def ndE (b : Bk) (x : Int) : Nd := (b.nodes[x.toNat]?).getD ⟨0, ⟨#[]⟩, []⟩
theorem ndE_nat {b : Bk} {i : Nat} (hi : i < b.nodes.length) : ndE b (i : Int) = b.nodes[i] := by simp [ndE, hi]
def inQ (n : Nat) (x y : Int) : Prop := 0 ≤ x ∧ x < n ∧ 0 ≤ y ∧ y < n
def BisE (b : Bk) (E : Int → Int → Prop) : Prop := ∀ x y, E x y → inQ b.nodes.length x y ∧ FitP E (ndE b x) (ndE b y)
/-- Two nodes are equal (P10.1). -/
def Bis (b : Bk) (x y : Int) : Prop := ∃ E, BisE b E ∧ E x y
theorem bis_self (b : Bk) : BisE b (Bis b) := by
  rintro x y ⟨E, hE, h⟩
  obtain ⟨h1, h2⟩ := hE x y h
  exact ⟨h1, h2.kind, h2.peer, h2.len, fun i hi hi' => (h2.arm i hi hi').mono (fun h => ⟨E, hE, h⟩) (fun _ h => ⟨E, hE, h⟩)⟩
/-- A book that is known in its nodes. -/
def GB (b : Bk) : Prop := ∀ x ∈ b.nodes, GN b.nodes.length x
theorem q_gb {b : Bk} (h : bookB b = true) : GB b := fun _ hx => q_gn (q_node h hx)
theorem GB.at {b : Bk} (h : GB b) {x : Int} (h0 : 0 ≤ x) (h1 : x < b.nodes.length) : GN b.nodes.length (ndE b x) := by
  have hi : x.toNat < b.nodes.length := by omega
  have : ndE b x = b.nodes[x.toNat] := by simp [ndE, hi]
  rw [this]
  exact h _ (List.getElem_mem hi)
theorem bis_refl {b : Bk} (h : GB b) {x : Int} (h0 : 0 ≤ x) (h1 : x < b.nodes.length) : Bis b x x := by
  refine ⟨fun x y => x = y ∧ 0 ≤ x ∧ x < b.nodes.length, ?_, rfl, h0, h1⟩
  rintro x y ⟨rfl, h0, h1⟩
  have hn := h.at h0 h1
  exact ⟨⟨h0, h1, h0, h1⟩, rfl, rfl, rfl, fun i hi hi' => ⟨rfl, rfl, ⟨rfl, (hn.arm _ (List.getElem_mem hi)).nx⟩, fun h5 => ⟨rfl, (hn.arm _ (List.getElem_mem hi)).at_ h5⟩⟩⟩
theorem bis_symm {b : Bk} {x y : Int} (h : Bis b x y) : Bis b y x := by
  refine ⟨fun x y => Bis b y x, ?_, h⟩
  intro x y hyx
  obtain ⟨⟨h1, h2, h3, h4⟩, hf⟩ := bis_self b y x hyx
  exact ⟨⟨h3, h4, h1, h2⟩, hf.kind.symm, hf.peer.symm, hf.len.symm, fun i hi hi' => by
    have := hf.arm i hi' hi
    exact ⟨this.label.symm, this.kind.symm, this.next, fun h5 => this.at_ (this.kind.trans h5)⟩⟩
theorem bis_trans {b : Bk} {x y z : Int} (h : Bis b x y) (h' : Bis b y z) : Bis b x z := by
  refine ⟨fun x z => ∃ y, Bis b x y ∧ Bis b y z, ?_, y, h, h'⟩
  rintro x z ⟨y, h1, h2⟩
  obtain ⟨⟨a1, a2, _, _⟩, f⟩ := bis_self b x y h1
  obtain ⟨⟨_, _, a3, a4⟩, g⟩ := bis_self b y z h2
  exact ⟨⟨a1, a2, a3, a4⟩, f.kind.trans g.kind, f.peer.trans g.peer, f.len.trans g.len, fun i hi hi' => by
    have p := f.arm i hi (by rw [← f.len]; exact hi)
    have q := g.arm i (by rw [← f.len]; exact hi) hi'
    exact ⟨p.label.trans q.label, p.kind.trans q.kind, ⟨_, p.next, q.next⟩, fun h5 => ⟨_, p.at_ h5, q.at_ (p.kind ▸ h5)⟩⟩⟩

theorem cl_nat {c : List Nat} {i j : Nat} (hi : i < c.length) (hj : j < c.length) : cl c i = cl c j ↔ c[i]? = c[j]? := by
  simp [cl, hi, hj]
/-- A row of keys (of classes) that never parts equal nodes. -/
structure Coarse {α : Type} (b : Bk) (ks : List α) : Prop where
  len : ks.length = b.nodes.length
  le : ∀ i j : Nat, Bis b i j → ks[i]? = ks[j]?
theorem bis_nat {b : Bk} {x y : Int} (h : Bis b x y) : ∃ i j : Nat, x = i ∧ y = j ∧ i < b.nodes.length ∧ j < b.nodes.length := by
  obtain ⟨⟨h0, h1, h2, h3⟩, _⟩ := bis_self b x y h
  exact ⟨x.toNat, y.toNat, by omega, by omega, by omega, by omega⟩
theorem Coarse.cl {b : Bk} {c : List Nat} (h : Coarse b c) {x y : Int} (hxy : Bis b x y) : cl c x = cl c y := by
  obtain ⟨i, j, rfl, rfl, hi, hj⟩ := bis_nat hxy
  exact (cl_nat (by rw [h.len]; exact hi) (by rw [h.len]; exact hj)).2 (h.le i j hxy)
theorem keys_iff {b : Bk} (h : GB b) {c : Option (List Nat)} (hc : ∀ l, c = some l → ∀ k ∈ l, k < 100) {i j : Nat} (hi : i < b.nodes.length) (hj : j < b.nodes.length) :
    (keysB b c)[i]? = (keysB b c)[j]? ↔ relO c i j ∧ FitP (relO c) b.nodes[i] b.nodes[j] := by
  rw [keysB_get hi, keysB_get hj, Option.some.injEq]
  exact keyB_iff hc (h _ (List.getElem_mem hi)) (h _ (List.getElem_mem hj)) i j
theorem keys_coarse {b : Bk} (h : GB b) {c : Option (List Nat)} (hc : ∀ l, c = some l → ∀ k ∈ l, k < 100) (hco : ∀ l, c = some l → Coarse b l) : Coarse b (keysB b c) := by
  refine ⟨keysB_length b c, fun i j hij => ?_⟩
  obtain ⟨⟨_, hi, _, hj⟩, hf⟩ := bis_self b _ _ hij
  have hi : i < b.nodes.length := by omega
  have hj : j < b.nodes.length := by omega
  rw [ndE_nat hi, ndE_nat hj] at hf
  have hR : ∀ x y, Bis b x y → relO c x y := by
    intro x y hxy
    cases c with
    | none => exact trivial
    | some l => exact (hco l rfl).cl hxy
  exact (keys_iff h hc hi hj).2 ⟨hR _ _ hij, hf.kind, hf.peer, hf.len, fun k hk hk' => (hf.arm k hk hk').mono (hR _ _) (fun _ => hR _ _)⟩
theorem Coarse.of {α β : Type} {b : Bk} {ks : List α} {ms : List β} (h : Coarse b ks) (hl : ms.length = ks.length) (he : ∀ i j, i < ks.length → j < ks.length → ks[i]? = ks[j]? → ms[i]? = ms[j]?) : Coarse b ms := by
  refine ⟨hl.trans h.len, fun i j hij => ?_⟩
  obtain ⟨⟨_, hi, _, hj⟩, _⟩ := bis_self b _ _ hij
  have hl := h.len
  exact he i j (by omega) (by omega) (h.le i j hij)
/-- Classes that one round more leaves as they are. -/
theorem stable_iff {b : Bk} (h : GB b) {c : List Nat} (hc : ∀ k ∈ c, k < 100) (hco : Coarse b c)
    (hst : ∀ i j, i < b.nodes.length → j < b.nodes.length → c[i]? = c[j]? → (keysB b (some c))[i]? = (keysB b (some c))[j]?) {i j : Nat} (hi : i < b.nodes.length) (hj : j < b.nodes.length) :
    c[i]? = c[j]? ↔ Bis b i j := by
  refine ⟨fun hij => ⟨fun x y => inQ b.nodes.length x y ∧ cl c x = cl c y, ?_, ⟨by omega, by omega, by omega, by omega⟩, ?_⟩, hco.le i j⟩
  · rintro x y ⟨⟨h0, h1, h2, h3⟩, he⟩
    refine ⟨⟨h0, h1, h2, h3⟩, ?_⟩
    have hx : x = (x.toNat : Int) := by omega
    have hy : y = (y.toNat : Int) := by omega
    have hx1 : x.toNat < b.nodes.length := by omega
    have hy1 : y.toNat < b.nodes.length := by omega
    rw [hx, hy] at he
    have hk := hst _ _ hx1 hy1 ((cl_nat (by rw [hco.len]; exact hx1) (by rw [hco.len]; exact hy1)).1 he)
    obtain ⟨_, hf⟩ := (keys_iff h (c := some c) (fun l hl => by injection hl with hl; subst hl; exact hc) hx1 hy1).1 hk
    have ex : ndE b x = b.nodes[x.toNat] := by simp [ndE, hx1]
    have ey : ndE b y = b.nodes[y.toNat] := by simp [ndE, hy1]
    rw [ex, ey]
    have gx := h _ (List.getElem_mem hx1)
    have gy := h _ (List.getElem_mem hy1)
    exact ⟨hf.kind, hf.peer, hf.len, fun k hk hk' => by
      have fa := hf.arm k hk hk'
      have g1 := gx.arm _ (List.getElem_mem hk)
      have g2 := gy.arm _ (List.getElem_mem hk')
      exact ⟨fa.label, fa.kind, ⟨⟨g1.nx.1, g1.nx.2, g2.nx.1, g2.nx.2⟩, fa.next⟩, fun h5 => ⟨⟨(g1.at_ h5).1, (g1.at_ h5).2, (g2.at_ (fa.kind ▸ h5)).1, (g2.at_ (fa.kind ▸ h5)).2⟩, fa.at_ h5⟩⟩⟩
  · have hl := hco.len
    exact (cl_nat (by omega) (by omega)).2 hij

/-! ### The classes -/
def refIt (b : Bk) : Nat → List Nat
  | 0 => List.replicate b.nodes.length 0
  | k + 1 => leastOf (keysB b (some (refIt b k)))
/-- Of each node the least one that is equal to it (P10.1). -/
def classesS (b : Bk) : List Nat := if bookB b then refIt b b.nodes.length else []

theorem refIt_length (b : Bk) (k : Nat) : (refIt b k).length = b.nodes.length := by
  cases k with
  | zero => simp [refIt]
  | succ k => simp [refIt, leastOf_length, keysB_length]
theorem refIt_le {b : Bk} {k i m : Nat} (h : (refIt b k)[i]? = some m) : m ≤ i := by
  cases k with
  | zero =>
    have := List.mem_of_getElem? h
    simp [refIt] at this
    omega
  | succ k => exact leastOf_le h
theorem refIt_lt {b : Bk} (hn : b.nodes.length ≤ 99) (k : Nat) : ∀ m ∈ refIt b k, m < 100 := by
  intro m hm
  obtain ⟨i, hi, rfl⟩ := List.mem_iff_getElem.1 hm
  have h1 := refIt_le (List.getElem?_eq_getElem hi)
  rw [refIt_length] at hi
  omega
theorem refIt_least (b : Bk) (k : Nat) : leastOf (refIt b k) = refIt b k := by
  cases k with
  | zero =>
    apply List.ext_getElem
    · simp [leastOf]
    intro i h1 h2
    simp only [refIt, List.length_replicate] at h2
    simp only [leastOf, refIt, List.getElem_map, List.getElem_replicate]
    refine idxOf_least (by simp; omega) (by simp) fun j hj => by omega
  | succ k => exact leastOf_idem _
section
variable {b : Bk} (h : GB b) (hn : b.nodes.length ≤ 99)
include h hn
theorem refO (k : Nat) : ∀ l, some (refIt b k) = some l → ∀ m ∈ l, m < 100 := fun l hl => by injection hl with hl; subst hl; exact refIt_lt hn k
theorem refIt_coarse : ∀ k, Coarse b (refIt b k)
  | 0 => ⟨refIt_length b 0, fun i j hij => by
      obtain ⟨⟨_, hi, _, hj⟩, _⟩ := bis_self b _ _ hij
      simp [refIt, show i < b.nodes.length by omega, show j < b.nodes.length by omega]⟩
  | k + 1 => (keys_coarse h (refO h hn k) (fun l hl => by injection hl with hl; subst hl; exact refIt_coarse k)).of (leastOf_length _) fun i j hi hj he => (leastOf_eq hi hj).2 he
/-- A round makes the classes no coarser. -/
theorem refIt_finer (k : Nat) {i j : Nat} (hi : i < b.nodes.length) (hj : j < b.nodes.length) (he : (keysB b (some (refIt b k)))[i]? = (keysB b (some (refIt b k)))[j]?) : (refIt b k)[i]? = (refIt b k)[j]? := by
  have := ((keys_iff h (refO h hn k) hi hj).1 he).1
  exact (cl_nat (by rw [refIt_length]; exact hi) (by rw [refIt_length]; exact hj)).1 this
theorem refIt_count (k : Nat) : (ddG (refIt b k)).length ≤ (ddG (refIt b (k + 1))).length ∧ ((ddG (refIt b k)).length = (ddG (refIt b (k + 1))).length → refIt b (k + 1) = refIt b k) := by
  have hl := refIt_length b k
  have hl2 := refIt_length b (k + 1)
  have hkl := keysB_length b (some (refIt b k))
  have hf : ∀ i j, i < (refIt b k).length → j < (refIt b k).length → (refIt b (k + 1))[i]? = (refIt b (k + 1))[j]? → (refIt b k)[i]? = (refIt b k)[j]? := fun i j hi hj he =>
    refIt_finer h hn k (by omega) (by omega) ((leastOf_eq (by omega) (by omega)).1 he)
  obtain ⟨c1, c2⟩ := finer_count (l := refIt b k) (m := refIt b (k + 1)) (by omega) hf
  refine ⟨c1, fun e => ?_⟩
  rw [← refIt_least b k, ← refIt_least b (k + 1)]
  exact leastOf_same (by omega) fun i j hi hj => ⟨hf i j (by omega) (by omega), c2 e i j (by omega) (by omega)⟩
theorem refIt_stop {k : Nat} (hs : refIt b (k + 1) = refIt b k) : ∀ m, refIt b (k + m) = refIt b k
  | 0 => rfl
  | m + 1 => by
    have := refIt_stop hs m
    rw [show k + (m + 1) = (k + m) + 1 from rfl]
    show leastOf (keysB b (some (refIt b (k + m)))) = _
    rw [this]; exact hs
/-- Before the classes stop, there are more of them than rounds. -/
theorem refIt_many (hpos : 0 < b.nodes.length) : ∀ k, (∀ j, j < k → refIt b (j + 1) ≠ refIt b j) → k + 1 ≤ (ddG (refIt b k)).length
  | 0, _ => by
    have : 0 ∈ ddG (refIt b 0) := mem_ddG.2 (by rw [refIt, List.mem_replicate]; exact ⟨by omega, rfl⟩)
    exact List.length_pos_iff.2 (List.ne_nil_of_mem this)
  | k + 1, hk => by
    have h1 := refIt_many hpos k fun j hj => hk j (by omega)
    obtain ⟨c1, c2⟩ := refIt_count h hn k
    have : (ddG (refIt b k)).length ≠ (ddG (refIt b (k + 1))).length := fun e => hk k (by omega) (c2 e)
    omega
theorem refIt_end : refIt b (b.nodes.length + 1) = refIt b b.nodes.length := by
  by_cases hpos : 0 < b.nodes.length
  · by_cases hex : ∃ j, j < b.nodes.length ∧ refIt b (j + 1) = refIt b j
    · obtain ⟨j, hj, hs⟩ := hex
      have q1 := refIt_stop h hn hs (b.nodes.length - j)
      have q2 := refIt_stop h hn hs (b.nodes.length + 1 - j)
      rw [show j + (b.nodes.length - j) = b.nodes.length by omega] at q1
      rw [show j + (b.nodes.length + 1 - j) = b.nodes.length + 1 by omega] at q2
      rw [q1, q2]
    · have := refIt_many h hn hpos b.nodes.length fun j hj e => hex ⟨j, hj, e⟩
      have h2 := ddG_len (refIt b b.nodes.length)
      rw [refIt_length] at h2
      omega
  · have : b.nodes.length = 0 := by omega
    rw [List.eq_nil_of_length_eq_zero ((refIt_length b _).trans this), List.eq_nil_of_length_eq_zero ((refIt_length b _).trans this)]
theorem refIt_bis {k : Nat} (hs : refIt b (k + 1) = refIt b k) {i j : Nat} (hi : i < b.nodes.length) (hj : j < b.nodes.length) : (refIt b k)[i]? = (refIt b k)[j]? ↔ Bis b i j :=
  stable_iff h (refIt_lt hn k) (refIt_coarse h hn k) (fun i j hi hj he => by
    rw [← hs] at he
    exact (leastOf_eq (by rw [keysB_length]; exact hi) (by rw [keysB_length]; exact hj)).1 he) hi hj
/-- Classes that tell apart just what is not equal have one row of least places. -/
theorem least_bis {α : Type} [DecidableEq α] {c : List α} (hl : c.length = b.nodes.length) (hc : ∀ i j, i < b.nodes.length → j < b.nodes.length → (c[i]? = c[j]? ↔ Bis b i j)) : leastOf c = refIt b b.nodes.length := by
  rw [← refIt_least b b.nodes.length]
  refine leastOf_same (by rw [hl, refIt_length]) fun i j hi hj => ?_
  rw [hc i j (by omega) (by omega), refIt_bis h hn (refIt_end h hn) (by omega) (by omega)]
end
theorem cls_eq {b : Bk} (hb : bookB b = true) : classesS b = refIt b b.nodes.length := by simp [classesS, hb]
theorem cls_length {b : Bk} (hb : bookB b = true) : (classesS b).length = b.nodes.length := by rw [cls_eq hb, refIt_length]
theorem cls_bis {b : Bk} (hb : bookB b = true) (hn : b.nodes.length ≤ 99) {i j : Nat} (hi : i < b.nodes.length) (hj : j < b.nodes.length) : (classesS b)[i]? = (classesS b)[j]? ↔ Bis b i j := by
  rw [cls_eq hb]
  exact refIt_bis (q_gb hb) hn (refIt_end (q_gb hb) hn) hi hj
theorem cls_of {b : Bk} (hb : bookB b = true) (hn : b.nodes.length ≤ 99) {α : Type} [DecidableEq α] {c : List α} (hl : c.length = b.nodes.length) (hc : ∀ i j, i < b.nodes.length → j < b.nodes.length → (c[i]? = c[j]? ↔ Bis b i j)) : leastOf c = classesS b := by
  rw [cls_eq hb]; exact least_bis (q_gb hb) hn hl hc
theorem cls_stop {b : Bk} (hb : bookB b = true) (hn : b.nodes.length ≤ 99) {k : Nat} (hs : refIt b (k + 1) = refIt b k) : refIt b k = classesS b := by
  rw [← refIt_least b k]
  exact cls_of hb hn (refIt_length b k) fun i j hi hj => refIt_bis (q_gb hb) hn hs hi hj
theorem cls_least {b : Bk} (hb : bookB b = true) : leastOf (classesS b) = classesS b := by rw [cls_eq hb]; exact refIt_least b _
theorem cls_le {b : Bk} (hb : bookB b = true) {i k : Nat} (h : (classesS b)[i]? = some k) : k ≤ i := by rw [cls_eq hb] at h; exact refIt_le h
end Go.Sy
