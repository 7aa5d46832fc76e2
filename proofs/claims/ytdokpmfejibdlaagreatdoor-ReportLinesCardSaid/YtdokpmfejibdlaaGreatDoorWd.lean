/- Chapter 54: degrees, partners, pairs, the matrix, states, classes, in plain words. -/
import Derived.Test.YtdokpmfejibdlaaGreatDoorSc
set_option linter.unusedSimpArgs false
set_option linter.unusedVariables false
namespace Go.Proofs.YtdokpmfejibdlaaGreatDoor

/-! ### Strictly ascending numbers. -/
theorem takeSnocW {α : Type} {xs : List α} {k : Nat} {x : α} (h : xs[k]? = some x) : xs.take (k + 1) = xs.take k ++ [x] := by
  obtain ⟨hl, rfl⟩ := List.getElem?_eq_some_iff.1 h
  exact List.take_succ_eq_append_getElem hl
theorem snocIndW {α : Type} {p : List α → Prop} (h0 : p []) (h1 : ∀ l x, p l → p (l ++ [x])) : ∀ l, p l := by
  intro l
  rw [← List.reverse_reverse l]
  induction l.reverse with
  | nil => exact h0
  | cons x r ih => rw [List.reverse_cons]; exact h1 _ _ ih
theorem ascW_unique {a b : List Int} (ha : a.Pairwise (· < ·)) (hb : b.Pairwise (· < ·)) (hm : ∀ x, x ∈ a ↔ x ∈ b) : a = b := by
  have nd : ∀ l : List Int, l.Pairwise (· < ·) → l.Nodup := fun l h => h.imp (fun h e => by subst e; exact absurd h (Int.lt_irrefl _))
  exact List.Perm.eq_of_pairwise (le := (· < ·)) (fun a b _ _ h3 h4 => absurd (Int.lt_trans h3 h4) (Int.lt_irrefl _)) ha hb ((List.perm_ext_iff_of_nodup (nd a ha) (nd b hb)).2 hm)
def withI (n : Int) : List Int → List Int
  | [] => [n]
  | x :: r => if x < n then x :: withI n r else if x = n then x :: r else n :: x :: r
theorem withI_mem {n z : Int} : ∀ {l : List Int}, z ∈ withI n l ↔ z = n ∨ z ∈ l
  | [] => by simp [withI]
  | y :: r => by
    unfold withI
    split
    · rw [List.mem_cons, withI_mem, List.mem_cons]
      constructor
      · rintro (h | h | h)
        · exact .inr (.inl h)
        · exact .inl h
        · exact .inr (.inr h)
      · rintro (h | h | h)
        · exact .inr (.inl h)
        · exact .inl h
        · exact .inr (.inr h)
    · split
      · rename_i h; subst h; simp
      · simp
theorem withI_asc {n : Int} : ∀ {l : List Int}, l.Pairwise (· < ·) → (withI n l).Pairwise (· < ·)
  | [], _ => by simp [withI]
  | y :: r, h => by
    obtain ⟨h1, h2⟩ := List.pairwise_cons.1 h
    unfold withI
    split
    · rename_i hy
      rw [List.pairwise_cons]
      refine ⟨fun z hz => ?_, withI_asc h2⟩
      rcases withI_mem.1 hz with rfl | hz
      · exact hy
      · exact h1 z hz
    · split
      · exact h
      · rw [List.pairwise_cons]
        refine ⟨fun z hz => ?_, h⟩
        rcases List.mem_cons.1 hz with rfl | hz
        · omega
        · have := h1 z hz; omega
theorem withI_cut {n : Int} : ∀ (k : Nat) (l : List Int), (∀ y ∈ l.take k, y < n) → (k = l.length ∨ ∃ y, l[k]? = some y ∧ ¬ y < n) → withI n l = if l[k]? = some n then l else l.take k ++ n :: l.drop k
  | 0, [], _, _ => by simp [withI]
  | 0, y :: r, _, h2 => by
    have hy : ¬ y < n := by
      rcases h2 with h | ⟨z, hz, h⟩
      · simp at h
      · have : y = z := by simpa using hz
        subst this; exact h
    unfold withI
    rw [if_neg hy]
    by_cases e : y = n
    · simp [e]
    · simp [e]
  | k + 1, [], _, h2 => by
    rcases h2 with h | ⟨z, hz, _⟩
    · simp at h
    · simp at hz
  | k + 1, y :: r, h1, h2 => by
    have hy : y < n := h1 y (by simp)
    have ih := withI_cut k r (fun z hz => h1 z (by simp [hz])) (by
      rcases h2 with h | ⟨z, hz, h⟩
      · left; simpa using h
      · right; exact ⟨z, by simpa using hz, h⟩)
    unfold withI
    rw [if_pos hy, ih]
    simp only [List.getElem?_cons_succ, List.take_succ_cons, List.drop_succ_cons]
    split <;> simp
theorem withI_len (n : Int) : ∀ l : List Int, (withI n l).length ≤ l.length + 1
  | [] => by simp [withI]
  | y :: r => by
    unfold withI
    split
    · have := withI_len n r
      simp only [List.length_cons]; omega
    · split <;> simp
/-- The numbers of a list, each once, ascending. -/
def uniqI (l : List Int) : List Int := l.foldl (fun o x => withI x o) []
theorem uniqI_snoc (l : List Int) (x : Int) : uniqI (l ++ [x]) = withI x (uniqI l) := by unfold uniqI; rw [List.foldl_append]; rfl
theorem uniqI_mem {z : Int} : ∀ l : List Int, z ∈ uniqI l ↔ z ∈ l := by
  refine snocIndW (by simp [uniqI]) fun l x ih => ?_
  rw [uniqI_snoc, withI_mem, ih, List.mem_append, List.mem_singleton]
  exact Or.comm
theorem uniqI_asc : ∀ l : List Int, (uniqI l).Pairwise (· < ·) := by
  refine snocIndW List.Pairwise.nil fun l x ih => ?_
  rw [uniqI_snoc]
  exact withI_asc ih
theorem uniqI_len : ∀ l : List Int, (uniqI l).length ≤ l.length := by
  refine snocIndW (by simp [uniqI]) fun l x ih => ?_
  rw [uniqI_snoc, List.length_append, List.length_singleton]
  exact Nat.le_trans (withI_len x _) (by omega)
/-- Equal neighbours struck. -/
def compI : List Int → List Int
  | [] => []
  | [x] => [x]
  | x :: y :: r => if x = y then compI (y :: r) else x :: compI (y :: r)
theorem compI_mem {z : Int} : ∀ l : List Int, z ∈ compI l ↔ z ∈ l
  | [] => by simp [compI]
  | [x] => by simp [compI]
  | x :: y :: r => by
    unfold compI
    split
    · rename_i h
      subst h
      rw [compI_mem (x :: r)]
      simp
    · rw [List.mem_cons, compI_mem (y :: r), List.mem_cons (l := y :: r)]
theorem compI_asc : ∀ l : List Int, l.Pairwise (· ≤ ·) → (compI l).Pairwise (· < ·)
  | [], _ => by simp [compI]
  | [x], _ => by simp [compI]
  | x :: y :: r, h => by
    obtain ⟨h1, h2⟩ := List.pairwise_cons.1 h
    have ih := compI_asc (y :: r) h2
    unfold compI
    split
    · exact ih
    · rename_i hne
      rw [List.pairwise_cons]
      refine ⟨fun z hz => ?_, ih⟩
      have hz' := (compI_mem (y :: r)).1 hz
      have hxy : x < y := by have := h1 y (by simp); omega
      rcases List.mem_cons.1 hz' with rfl | hz'
      · exact hxy
      · have := (List.pairwise_cons.1 h2).1 z hz'
        omega
theorem uniq_prog {l ys : List Int} (hp : ys.Perm l) (hs : ys.Pairwise (· ≤ ·)) : compI ys = uniqI l :=
  ascW_unique (compI_asc ys hs) (uniqI_asc l) fun x => by rw [compI_mem, hp.mem_iff, uniqI_mem]

/-! ### Graphs. -/
structure Lnk where
  id : Int
  obv : Int
  rev : Int
  deriving DecidableEq, Inhabited
structure Gr where
  obv : List Int
  rev : List Int
  links : List Lnk
  deriving DecidableEq, Inhabited
structure DieP where
  side : Int
  num : Int
  deriving DecidableEq, Inhabited
def grZero : Gr := ⟨[], [], []⟩
def lnkOf (s : Spm) : Lnk := ⟨s.id, s.obv, s.rev⟩
/-- The graph of a list that is without fault. -/
def grOf (xs : List Spm) : Gr := ⟨uniqI (xs.map Spm.obv), uniqI (xs.map Spm.rev), (sortS xs).map lnkOf⟩
def grE (xs : List Spm) : Int := if chk xs = 0 then (if (grOf xs).obv.length ≤ 32 ∧ (grOf xs).rev.length ≤ 32 then 0 else 6) else chk xs
def grR (xs : List Spm) : Gr := if grE xs = 0 then grOf xs else grZero
structure GrOk (g : Gr) : Prop where
  ao : g.obv.Pairwise (· < ·)
  ar : g.rev.Pairwise (· < ·)
  ro : ∀ n ∈ g.obv, 1 ≤ n ∧ n ≤ 999
  rr : ∀ n ∈ g.rev, 1 ≤ n ∧ n ≤ 999
  lo : g.obv.length ≤ 32
  lr : g.rev.length ≤ 32
  ll : g.links.length ≤ 64
  li : g.links.Pairwise (fun a b => a.id < b.id)
  ri : ∀ x ∈ g.links, 1 ≤ x.id ∧ x.id ≤ 9999
  eo : ∀ n, n ∈ g.obv ↔ ∃ x ∈ g.links, x.obv = n
  er : ∀ n, n ∈ g.rev ↔ ∃ x ∈ g.links, x.rev = n
theorem grE_chk {xs : List Spm} (h : grE xs = 0) : chk xs = 0 ∧ (grOf xs).obv.length ≤ 32 ∧ (grOf xs).rev.length ≤ 32 := by
  unfold grE at h
  by_cases h0 : chk xs = 0
  · rw [if_pos h0] at h
    by_cases h1 : (grOf xs).obv.length ≤ 32 ∧ (grOf xs).rev.length ≤ 32
    · exact ⟨h0, h1⟩
    · rw [if_neg h1] at h; cases h
  · rw [if_neg h0] at h; exact absurd h h0
theorem grOk_of {xs : List Spm} (h : grE xs = 0) : GrOk (grOf xs) := by
  obtain ⟨h0, h1, h2⟩ := grE_chk h
  obtain ⟨h64, hv, hnd⟩ := (chk_zero xs).1 h0
  have hval : ∀ x ∈ xs, (1 ≤ x.obv ∧ x.obv ≤ 999) ∧ (1 ≤ x.rev ∧ x.rev ≤ 999) ∧ (1 ≤ x.id ∧ x.id ≤ 9999) := fun x hx => by
    have := (validS_iff x).1 (hv x hx)
    exact ⟨this.1, this.2.1, this.2.2.2.2.1⟩
  have hlm : ∀ y, y ∈ (grOf xs).links ↔ ∃ x ∈ xs, lnkOf x = y := fun y => by
    show y ∈ (sortS xs).map lnkOf ↔ _
    rw [List.mem_map]
    constructor
    · rintro ⟨x, hx, e⟩; exact ⟨x, (sortS_mem _ _).1 hx, e⟩
    · rintro ⟨x, hx, e⟩; exact ⟨x, (sortS_mem _ _).2 hx, e⟩
  refine ⟨uniqI_asc _, uniqI_asc _, fun n hn => ?_, fun n hn => ?_, h1, h2, ?_, ?_, fun y hy => ?_, fun n => ?_, fun n => ?_⟩
  · obtain ⟨x, hx, rfl⟩ := List.mem_map.1 ((uniqI_mem _).1 hn)
    exact (hval x hx).1
  · obtain ⟨x, hx, rfl⟩ := List.mem_map.1 ((uniqI_mem _).1 hn)
    exact (hval x hx).2.1
  · show ((sortS xs).map lnkOf).length ≤ 64
    rw [List.length_map, sortS_len]; exact h64
  · show ((sortS xs).map lnkOf).Pairwise _
    rw [List.pairwise_map]
    exact sortS_lt hnd
  · obtain ⟨x, hx, rfl⟩ := (hlm y).1 hy
    exact (hval x hx).2.2
  · show n ∈ uniqI _ ↔ _
    rw [uniqI_mem, List.mem_map]
    constructor
    · rintro ⟨x, hx, rfl⟩; exact ⟨lnkOf x, (hlm _).2 ⟨x, hx, rfl⟩, rfl⟩
    · rintro ⟨y, hy, rfl⟩
      obtain ⟨x, hx, rfl⟩ := (hlm y).1 hy
      exact ⟨x, hx, rfl⟩
  · show n ∈ uniqI _ ↔ _
    rw [uniqI_mem, List.mem_map]
    constructor
    · rintro ⟨x, hx, rfl⟩; exact ⟨lnkOf x, (hlm _).2 ⟨x, hx, rfl⟩, rfl⟩
    · rintro ⟨y, hy, rfl⟩
      obtain ⟨x, hx, rfl⟩ := (hlm y).1 hy
      exact ⟨x, hx, rfl⟩
/-- From links back: the graph that links make. -/
theorem gr_own {g : Gr} (h : GrOk g) : uniqI (g.links.map Lnk.obv) = g.obv ∧ uniqI (g.links.map Lnk.rev) = g.rev := by
  constructor
  · refine ascW_unique (uniqI_asc _) h.ao fun n => ?_
    rw [uniqI_mem, List.mem_map, h.eo]
  · refine ascW_unique (uniqI_asc _) h.ar fun n => ?_
    rw [uniqI_mem, List.mem_map, h.er]
end Go.Proofs.YtdokpmfejibdlaaGreatDoor
set_option linter.unusedSimpArgs false
set_option linter.unusedVariables false
namespace Go.Proofs.YtdokpmfejibdlaaGreatDoor

def diesG (g : Gr) : List DieP := g.obv.map (fun n => ⟨0, n⟩) ++ g.rev.map (fun n => ⟨1, n⟩)
theorem diesG_len (g : Gr) : (diesG g).length = g.obv.length + g.rev.length := by unfold diesG; simp
theorem diesG_mem {g : Gr} {d : DieP} : d ∈ diesG g ↔ (d.side = 0 ∧ d.num ∈ g.obv) ∨ (d.side = 1 ∧ d.num ∈ g.rev) := by
  obtain ⟨s, n⟩ := d
  unfold diesG
  rw [List.mem_append, List.mem_map, List.mem_map]
  constructor
  · rintro (⟨m, hm, e⟩ | ⟨m, hm, e⟩)
    · injection e with e1 e2; subst e1 e2; exact .inl ⟨rfl, hm⟩
    · injection e with e1 e2; subst e1 e2; exact .inr ⟨rfl, hm⟩
  · rintro (⟨h1, h2⟩ | ⟨h1, h2⟩)
    · simp only at h1 h2; subst h1; exact .inl ⟨n, h2, rfl⟩
    · simp only at h1 h2; subst h1; exact .inr ⟨n, h2, rfl⟩
theorem diesG_nodup {g : Gr} (h : GrOk g) : (diesG g).Nodup := by
  have nd : ∀ {l : List Int} (s : Int), l.Pairwise (· < ·) → (l.map (fun n => (⟨s, n⟩ : DieP))).Nodup := fun {l} s hl => by
    show List.Pairwise _ _
    rw [List.pairwise_map]
    exact hl.imp (fun {a b} hab e => by injection e with _ e; omega)
  unfold diesG
  rw [List.nodup_append]
  refine ⟨nd 0 h.ao, nd 1 h.ar, fun a ha b hb e => ?_⟩
  subst e
  obtain ⟨n, _, rfl⟩ := List.mem_map.1 ha
  obtain ⟨m, _, e⟩ := List.mem_map.1 hb
  injection e with e _
  cases e
def obvD (x : Lnk) : DieP := ⟨0, x.obv⟩
def revD (x : Lnk) : DieP := ⟨1, x.rev⟩
/-- Where a link leads from a die. -/
def acrossD (x : Lnk) (d : DieP) : Option DieP := if d = obvD x then some (revD x) else if d = revD x then some (obvD x) else none
def AdjD (g : Gr) (a b : DieP) : Prop := ∃ x ∈ g.links, acrossD x a = some b
theorem obv_ne_rev (x y : Lnk) : obvD x ≠ revD y := fun e => by injection e with e _; cases e
theorem across_iff {x : Lnk} {a b : DieP} : acrossD x a = some b ↔ (a = obvD x ∧ b = revD x) ∨ (a = revD x ∧ b = obvD x) := by
  unfold acrossD
  by_cases h1 : a = obvD x
  · rw [if_pos h1]
    constructor
    · intro h; injection h with h; exact .inl ⟨h1, h.symm⟩
    · rintro (⟨_, h⟩ | ⟨h2, _⟩)
      · rw [h]
      · exact absurd (h1.symm.trans h2) (obv_ne_rev x x)
  · rw [if_neg h1]
    by_cases h2 : a = revD x
    · rw [if_pos h2]
      constructor
      · intro h; injection h with h; exact .inr ⟨h2, h.symm⟩
      · rintro (⟨h, _⟩ | ⟨_, h⟩)
        · exact absurd h h1
        · rw [h]
    · rw [if_neg h2]
      constructor
      · intro h; cases h
      · rintro (⟨h, _⟩ | ⟨h, _⟩)
        · exact absurd h h1
        · exact absurd h h2
theorem AdjD.symm {g : Gr} {a b : DieP} (h : AdjD g a b) : AdjD g b a := by
  obtain ⟨x, hx, e⟩ := h
  refine ⟨x, hx, across_iff.2 ?_⟩
  rcases across_iff.1 e with ⟨h1, h2⟩ | ⟨h1, h2⟩
  · exact .inr ⟨h2, h1⟩
  · exact .inl ⟨h2, h1⟩
theorem AdjD.mem {g : Gr} (hg : GrOk g) {a b : DieP} (h : AdjD g a b) : b ∈ diesG g := by
  obtain ⟨x, hx, e⟩ := h
  rw [diesG_mem]
  rcases across_iff.1 e with ⟨_, rfl⟩ | ⟨_, rfl⟩
  · exact .inr ⟨rfl, (hg.er _).2 ⟨x, hx, rfl⟩⟩
  · exact .inl ⟨rfl, (hg.eo _).2 ⟨x, hx, rfl⟩⟩
inductive Reach (g : Gr) (a : DieP) : DieP → Prop
  | refl : Reach g a a
  | step {b c : DieP} : Reach g a b → AdjD g b c → Reach g a c
theorem Reach.trans {g : Gr} {a b c : DieP} (h1 : Reach g a b) (h2 : Reach g b c) : Reach g a c := by
  induction h2 with
  | refl => exact h1
  | step _ h ih => exact .step ih h
theorem Reach.symm {g : Gr} {a b : DieP} (h : Reach g a b) : Reach g b a := by
  induction h with
  | refl => exact .refl
  | step _ h ih => exact (Reach.step .refl h.symm).trans ih
theorem Reach.mem {g : Gr} (hg : GrOk g) {a b : DieP} (ha : a ∈ diesG g) (h : Reach g a b) : b ∈ diesG g := by
  induction h with
  | refl => exact ha
  | step _ h _ => exact h.mem hg
/-- What holds the start and is closed under links holds all that is reached. -/
theorem Reach.closed {g : Gr} {a : DieP} {S : DieP → Prop} (h0 : S a) (h1 : ∀ b c, S b → AdjD g b c → S c) {b : DieP} (h : Reach g a b) : S b := by
  induction h with
  | refl => exact h0
  | step _ h ih => exact h1 _ _ ih h
def ReachI (g : Gr) (i j : Nat) : Prop := ∃ a b, (diesG g)[i]? = some a ∧ (diesG g)[j]? = some b ∧ Reach g a b
theorem ReachI.symm {g : Gr} {i j : Nat} (h : ReachI g i j) : ReachI g j i := by
  obtain ⟨a, b, h1, h2, h3⟩ := h
  exact ⟨b, a, h2, h1, h3.symm⟩
theorem ReachI.trans {g : Gr} {i j k : Nat} (h : ReachI g i j) (h' : ReachI g j k) : ReachI g i k := by
  obtain ⟨a, b, h1, h2, h3⟩ := h
  obtain ⟨b', c, h4, h5, h6⟩ := h'
  obtain rfl : b' = b := Option.some.inj (h4.symm.trans h2)
  exact ⟨a, c, h1, h5, h3.trans h6⟩
theorem ReachI.refl {g : Gr} {i : Nat} (h : i < (diesG g).length) : ReachI g i i := ⟨_, _, List.getElem?_eq_getElem h, List.getElem?_eq_getElem h, .refl⟩
/-- The first of its component. -/
def FirstI (g : Gr) (i : Nat) : Prop := ∀ j, j < i → ¬ ReachI g j i
noncomputable def isFirst (g : Gr) (i : Nat) : Bool := @decide (FirstI g i) (Classical.propDecidable _)
theorem isFirst_iff {g : Gr} {i : Nat} : isFirst g i = true ↔ FirstI g i := by unfold isFirst; exact @decide_eq_true_iff _ (Classical.propDecidable _)
/-- How many components begin ahead of a place. -/
noncomputable def cntF (g : Gr) (i : Nat) : Nat := (List.range i).countP (isFirst g)
theorem cntF_succ (g : Gr) (i : Nat) : cntF g (i + 1) = cntF g i + (if isFirst g i = true then 1 else 0) := by
  unfold cntF
  rw [List.range_succ, List.countP_append, List.countP_cons, List.countP_nil]
  simp
theorem cntF_mono {g : Gr} {i j : Nat} (h : i ≤ j) : cntF g i ≤ cntF g j := by
  induction j with
  | zero => obtain rfl : i = 0 := by omega
            exact Nat.le_refl _
  | succ j ih =>
    rcases Nat.lt_or_ge j i with h1 | h1
    · obtain rfl : i = j + 1 := by omega
      exact Nat.le_refl _
    · rw [cntF_succ]
      exact Nat.le_trans (ih h1) (Nat.le_add_right _ _)
theorem cntF_le (g : Gr) (i : Nat) : cntF g i ≤ i := by
  unfold cntF
  have := List.countP_le_length (p := isFirst g) (l := List.range i)
  rwa [List.length_range] at this
/-- The first of the component in which a place is. -/
noncomputable def firstI (g : Gr) (i : Nat) : Nat := ((List.range i).find? (fun j => @decide (ReachI g j i) (Classical.propDecidable _))).getD i
theorem firstI_spec {g : Gr} {i : Nat} (hi : i < (diesG g).length) : firstI g i ≤ i ∧ ReachI g (firstI g i) i ∧ ∀ j, j < firstI g i → ¬ ReachI g j i := by
  unfold firstI
  cases h : (List.range i).find? (fun j => @decide (ReachI g j i) (Classical.propDecidable _)) with
  | none =>
    rw [List.find?_eq_none] at h
    exact ⟨Nat.le_refl _, .refl hi, fun j hj hr => h j (List.mem_range.2 hj) ((@decide_eq_true_iff _ (Classical.propDecidable _)).2 hr)⟩
  | some k =>
    rw [List.find?_range_eq_some] at h
    obtain ⟨h1, h2, h3⟩ := h
    refine ⟨Nat.le_of_lt (List.mem_range.1 h2), (@decide_eq_true_iff _ (Classical.propDecidable _)).1 h1, fun j hj hr => ?_⟩
    have := h3 j hj
    rw [(@decide_eq_true_iff _ (Classical.propDecidable _)).2 hr] at this
    cases this
theorem firstI_first {g : Gr} {i : Nat} (hi : i < (diesG g).length) : FirstI g (firstI g i) := fun j hj hr => (firstI_spec hi).2.2 j hj (hr.trans (firstI_spec hi).2.1)
theorem firstI_self {g : Gr} {i : Nat} (hi : i < (diesG g).length) (h : FirstI g i) : firstI g i = i := by
  obtain ⟨h1, h2, _⟩ := firstI_spec hi
  rcases Nat.lt_or_ge (firstI g i) i with h3 | h3
  · exact absurd h2 (h _ h3)
  · omega
theorem firstI_congr {g : Gr} {i j : Nat} (h : ReachI g i j) : firstI g i = firstI g j := by
  have hi : i < (diesG g).length := by obtain ⟨a, b, h1, _⟩ := h; exact (List.getElem?_eq_some_iff.1 h1).1
  have hj : j < (diesG g).length := by obtain ⟨a, b, _, h1, _⟩ := h; exact (List.getElem?_eq_some_iff.1 h1).1
  obtain ⟨_, h2, h3⟩ := firstI_spec hi
  obtain ⟨_, h5, h6⟩ := firstI_spec hj
  rcases Nat.lt_trichotomy (firstI g i) (firstI g j) with h7 | h7 | h7
  · exact absurd (h2.trans h) (h6 _ h7)
  · exact h7
  · exact absurd (h5.trans h.symm) (h3 _ h7)
/-- The number of the component of a place. -/
noncomputable def partI (g : Gr) (i : Nat) : Nat := cntF g (firstI g i)
theorem partI_first {g : Gr} {i : Nat} (hi : i < (diesG g).length) (h : FirstI g i) : partI g i = cntF g i := by unfold partI; rw [firstI_self hi h]
theorem partI_congr {g : Gr} {i j : Nat} (h : ReachI g i j) : partI g i = partI g j := by unfold partI; rw [firstI_congr h]
theorem cntF_lt {g : Gr} {i j : Nat} (hi : FirstI g i) (h : i < j) : cntF g i < cntF g j := by
  have h1 := cntF_succ g i
  rw [if_pos (isFirst_iff.2 hi)] at h1
  have := cntF_mono (g := g) (show i + 1 ≤ j by omega)
  omega
theorem partI_inj {g : Gr} {i j : Nat} (hi : i < (diesG g).length) (hj : j < (diesG g).length) (h : partI g i = partI g j) : ReachI g i j := by
  have e : firstI g i = firstI g j := by
    unfold partI at h
    rcases Nat.lt_trichotomy (firstI g i) (firstI g j) with h7 | h7 | h7
    · have := cntF_lt (firstI_first hi) h7; omega
    · exact h7
    · have := cntF_lt (firstI_first hj) h7; omega
  have h1 := (firstI_spec hi).2.1
  have h2 := (firstI_spec hj).2.1
  rw [e] at h1
  exact h1.symm.trans h2
theorem partI_lt {g : Gr} {i : Nat} (hi : i < (diesG g).length) : partI g i < cntF g (diesG g).length := by
  unfold partI
  exact cntF_lt (firstI_first hi) (Nat.lt_of_le_of_lt (firstI_spec hi).1 hi)
/-- Whether a place is reached from a place ahead of i. -/
def KnownI (g : Gr) (i k : Nat) : Prop := ∃ j, j < i ∧ ReachI g j k
theorem known_first {g : Gr} {i : Nat} : ¬ KnownI g i i ↔ FirstI g i :=
  ⟨fun h j hj hr => h ⟨j, hj, hr⟩, fun h ⟨j, hj, hr⟩ => h j hj hr⟩
theorem known_succ {g : Gr} {i k : Nat} : KnownI g (i + 1) k ↔ KnownI g i k ∨ ReachI g i k := by
  constructor
  · rintro ⟨j, hj, hr⟩
    by_cases e : j = i
    · subst e; exact .inr hr
    · exact .inl ⟨j, by omega, hr⟩
  · rintro (⟨j, hj, hr⟩ | hr)
    · exact ⟨j, by omega, hr⟩
    · exact ⟨i, by omega, hr⟩
/-- A place that is known when i comes: its component began ahead of i. -/
theorem known_skip {g : Gr} {i k : Nat} (hi : i < (diesG g).length) (h : KnownI g i i) : KnownI g (i + 1) k ↔ KnownI g i k := by
  rw [known_succ]
  refine ⟨fun h' => ?_, .inl⟩
  rcases h' with h' | h'
  · exact h'
  · obtain ⟨j, hj, hr⟩ := h
    exact ⟨j, hj, hr.trans h'⟩
noncomputable def partsG (g : Gr) : List Int := (List.range (diesG g).length).map (fun i => (partI g i : Int))
/-- The dies of a component. -/
noncomputable def chainG (g : Gr) (k : Nat) : List DieP := ((List.range (diesG g).length).filter (fun i => decide (partI g i = k))).filterMap (fun i => (diesG g)[i]?)
noncomputable def chainsG (g : Gr) : List (List DieP) := (List.range (cntF g (diesG g).length)).map (chainG g)
noncomputable def loopsG (g : Gr) : Int := (g.links.length : Int) - g.obv.length - g.rev.length + (chainsG g).length
end Go.Proofs.YtdokpmfejibdlaaGreatDoor
set_option linter.unusedSimpArgs false
set_option linter.unusedVariables false
namespace Go.Proofs.YtdokpmfejibdlaaGreatDoor

theorem nodup_sub_len {α : Type} [DecidableEq α] : ∀ {l m : List α}, l.Nodup → (∀ x ∈ l, x ∈ m) → l.length ≤ m.length
  | [], m, _, _ => Nat.zero_le _
  | x :: l, m, h, hs => by
    obtain ⟨h1, h2⟩ := List.nodup_cons.1 h
    have hx : x ∈ m := hs x (by simp)
    have ih := nodup_sub_len (l := l) (m := m.erase x) h2 (fun y hy => by
      have hne : y ≠ x := fun e => h1 (e ▸ hy)
      exact (List.mem_erase_of_ne hne).2 (hs y (by simp [hy])))
    rw [List.length_erase_of_mem hx] at ih
    have : 0 < m.length := List.length_pos_of_mem hx
    simp only [List.length_cons]
    omega
/-! ### A queue. -/
structure BI (g : Gr) (a : DieP) (known queue : List DieP) : Prop where
  start : a ∈ known
  nd : known.Nodup
  reach : ∀ d ∈ known, Reach g a d
  sub : ∀ d ∈ queue, d ∈ known
  closed : ∀ d ∈ known, d ∉ queue → ∀ b, AdjD g d b → b ∈ known
structure BW (g : Gr) (a d : DieP) (k : Nat) (known queue : List DieP) : Prop where
  start : a ∈ known
  nd : known.Nodup
  reach : ∀ d ∈ known, Reach g a d
  sub : ∀ d ∈ queue, d ∈ known
  dk : d ∈ known
  closed : ∀ e ∈ known, e ∉ queue → e ≠ d → ∀ b, AdjD g e b → b ∈ known
  seen : ∀ x ∈ g.links.take k, ∀ b, acrossD x d = some b → b ∈ known
section
variable {g : Gr} {a d : DieP} {k : Nat} {known queue : List DieP}
theorem BI.begin (g : Gr) (a : DieP) : BI g a [a] [a] := ⟨by simp, by simp, fun d hd => by
  rw [List.mem_singleton] at hd; subst hd; exact .refl, fun d hd => hd, fun d hd hn => absurd hd hn⟩
theorem BI.pop (h : BI g a known (d :: queue)) : BW g a d 0 known queue :=
  ⟨h.start, h.nd, h.reach, fun e he => h.sub e (by simp [he]), h.sub d (by simp), fun e he hn hne => h.closed e he (by simp [hn, hne]), fun x hx => by simp at hx⟩
theorem seen_snoc {x : Lnk} (hx : g.links[k]? = some x) {p : Lnk → Prop} (h : ∀ y ∈ g.links.take k, p y) (hp : p x) : ∀ y ∈ g.links.take (k + 1), p y := fun y hy => by
  rw [takeSnocW hx, List.mem_append, List.mem_singleton] at hy
  rcases hy with hy | rfl
  · exact h y hy
  · exact hp
theorem BW.none_ (h : BW g a d k known queue) {x : Lnk} (hx : g.links[k]? = some x) (hn : acrossD x d = none) : BW g a d (k + 1) known queue :=
  ⟨h.start, h.nd, h.reach, h.sub, h.dk, h.closed, seen_snoc hx h.seen (fun b hb => by rw [hn] at hb; cases hb)⟩
theorem BW.old (h : BW g a d k known queue) {x : Lnk} {b : DieP} (hx : g.links[k]? = some x) (hn : acrossD x d = some b) (hb : b ∈ known) : BW g a d (k + 1) known queue :=
  ⟨h.start, h.nd, h.reach, h.sub, h.dk, h.closed, seen_snoc hx h.seen (fun c hc => by rw [hn] at hc; injection hc with hc; exact hc ▸ hb)⟩
theorem BW.new (h : BW g a d k known queue) {x : Lnk} {b : DieP} (hx : g.links[k]? = some x) (hn : acrossD x d = some b) (hb : b ∉ known) : BW g a d (k + 1) (known ++ [b]) (queue ++ [b]) := by
  refine ⟨by simp [h.start], ?_, fun e he => ?_, fun e he => ?_, by simp [h.dk], fun e he hn' hne c hc => ?_, ?_⟩
  · rw [List.nodup_append]
    refine ⟨h.nd, by simp, fun e he f hf e' => ?_⟩
    rw [List.mem_singleton] at hf
    subst hf
    subst e'
    exact hb he
  · rcases List.mem_append.1 he with he | he
    · exact h.reach e he
    · rw [List.mem_singleton] at he
      subst he
      exact .step (h.reach d h.dk) ⟨x, List.mem_of_getElem? hx, hn⟩
  · rcases List.mem_append.1 he with he | he
    · exact List.mem_append_left _ (h.sub e he)
    · exact List.mem_append_right _ he
  · rcases List.mem_append.1 he with he | he
    · exact List.mem_append_left _ (h.closed e he (fun h' => hn' (List.mem_append_left _ h')) hne c hc)
    · exact absurd (List.mem_append_right _ he) hn'
  · exact seen_snoc hx (fun y hy c hc => List.mem_append_left _ (h.seen y hy c hc)) (fun c hc => by
      rw [hn] at hc; injection hc with hc; subst hc; simp)
theorem BW.done (h : BW g a d k known queue) (hk : g.links.length = k) : BI g a known queue :=
  ⟨h.start, h.nd, h.reach, h.sub, fun e he hn b hb => by
    by_cases hne : e = d
    · subst hne
      obtain ⟨x, hx, hxb⟩ := hb
      exact h.seen x (by rw [List.take_of_length_le (by omega)]; exact hx) b hxb
    · exact h.closed e he hn hne b hb⟩
theorem BI.all (h : BI g a known []) (b : DieP) : b ∈ known ↔ Reach g a b :=
  ⟨h.reach b, fun hr => hr.closed (S := fun x => x ∈ known) h.start (fun b c hb hc => h.closed b hb (by simp) c hc)⟩
theorem BW.len (h : BW g a d k known queue) (hg : GrOk g) (ha : a ∈ diesG g) : known.length ≤ (diesG g).length := nodup_sub_len h.nd fun x hx => (h.reach x hx).mem hg ha
theorem BI.len (h : BI g a known queue) (hg : GrOk g) (ha : a ∈ diesG g) : known.length ≤ (diesG g).length := nodup_sub_len h.nd fun x hx => (h.reach x hx).mem hg ha
end

/-! ### Rounds. -/
def AdjI (g : Gr) (i j : Nat) : Prop := ∃ x ∈ g.links, ((diesG g)[i]? = some (obvD x) ∧ (diesG g)[j]? = some (revD x)) ∨ ((diesG g)[i]? = some (revD x) ∧ (diesG g)[j]? = some (obvD x))
theorem AdjI.reach {g : Gr} {i j : Nat} (h : AdjI g i j) : ReachI g i j := by
  obtain ⟨x, hx, ⟨h1, h2⟩ | ⟨h1, h2⟩⟩ := h
  · exact ⟨_, _, h1, h2, .step .refl ⟨x, hx, across_iff.2 (.inl ⟨rfl, rfl⟩)⟩⟩
  · exact ⟨_, _, h1, h2, .step .refl ⟨x, hx, across_iff.2 (.inr ⟨rfl, rfl⟩)⟩⟩
/-- The distances as they stand in round k. -/
structure FC (g : Gr) (t k : Nat) (out : List Int) : Prop where
  len : out.length = (diesG g).length
  sound : ∀ (i : Nat) (v : Int), out[i]? = some v → 0 ≤ v → ReachI g t i
  low : ∀ (i : Nat) (v : Int), out[i]? = some v → -1 ≤ v ∧ v ≤ (k : Int) + 1
  root : out[t]? = some 0
  prev : ∀ (i : Nat) (v : Int), out[i]? = some (v + 1) → 0 ≤ v → ∃ j : Nat, out[j]? = some v
  old : ∀ (i j : Nat) (v : Int), AdjI g i j → out[i]? = some v → 0 ≤ v → v < (k : Int) → ∃ u, out[j]? = some u ∧ 0 ≤ u
def seenL (g : Gr) (k : Nat) (out : List Int) (x : Lnk) : Prop := ∀ i j : Nat, (diesG g)[i]? = some (obvD x) → (diesG g)[j]? = some (revD x) → (out[i]? = some (k : Int) → ∃ u, out[j]? = some u ∧ 0 ≤ u) ∧ (out[j]? = some (k : Int) → ∃ u, out[i]? = some u ∧ 0 ≤ u)
structure FW (g : Gr) (t k m : Nat) (out : List Int) : Prop where
  c : FC g t k out
  seen : ∀ x ∈ g.links.take m, seenL g k out x
structure FR (g : Gr) (t k : Nat) (out : List Int) : Prop where
  c : FC g t k out
  top : ∀ (i : Nat) (v : Int), out[i]? = some v → v ≤ (k : Int)
section
variable {g : Gr} {t k m : Nat} {out : List Int}
theorem FR.start {ht : t < (diesG g).length} (h0 : out = (List.replicate (diesG g).length (-1 : Int)).set t 0) : FR g t 0 out := by
  subst h0
  have hget : ∀ i v, ((List.replicate (diesG g).length (-1 : Int)).set t 0)[i]? = some v → (i = t ∧ v = 0) ∨ v = -1 := fun i v h => by
    by_cases e : t = i
    · subst e
      rw [List.getElem?_set_self (by simpa using ht)] at h
      injection h with h
      exact .inl ⟨rfl, h.symm⟩
    · rw [List.getElem?_set_ne e] at h
      have := List.mem_of_getElem? h
      rw [List.mem_replicate] at this
      exact .inr this.2
  refine ⟨⟨by simp, fun i v h hv => ?_, fun i v h => ?_, List.getElem?_set_self (by simpa using ht), fun i v h hv => ?_, fun i j v _ h hv hk => by omega⟩, fun i v h => ?_⟩
  · rcases hget i v h with ⟨rfl, _⟩ | e
    · exact .refl ht
    · omega
  · rcases hget i v h with ⟨_, e⟩ | e
    · subst e; omega
    · subst e; omega
  · rcases hget i _ h with ⟨_, e⟩ | e
    · omega
    · omega
  · rcases hget i v h with ⟨_, e⟩ | e
    · subst e; omega
    · subst e; omega
theorem FR.begin (h : FR g t k out) : FW g t k 0 out := ⟨h.c, fun x hx => by simp at hx⟩
/-- A place beside one of round k comes to be known. -/
theorem FC.put (h : FC g t k out) {i j : Nat} {u : Int} (ha : AdjI g i j) (hi : out[i]? = some (k : Int)) (hj : out[j]? = some u) (hu : u < 0) :
    FC g t k (out.set j ((k : Int) + 1)) ∧ (∀ (i : Nat) (v : Int), out[i]? = some v → 0 ≤ v → (out.set j ((k : Int) + 1))[i]? = some v) ∧ (out.set j ((k : Int) + 1))[j]? = some ((k : Int) + 1) := by
  have hjl : j < out.length := (List.getElem?_eq_some_iff.1 hj).1
  have hset : ∀ i, (out.set j ((k : Int) + 1))[i]? = if j = i then some ((k : Int) + 1) else out[i]? := fun i => by
    rw [List.getElem?_set]
    split
    · rename_i e; subst e; simp [hjl]
    · rfl
  have hkeep : ∀ (i : Nat) (v : Int), out[i]? = some v → 0 ≤ v → (out.set j ((k : Int) + 1))[i]? = some v := fun i v h1 h2 => by
    rw [hset]
    split
    · rename_i e; subst e; rw [hj] at h1; injection h1 with h1; omega
    · exact h1
  have hself : (out.set j ((k : Int) + 1))[j]? = some ((k : Int) + 1) := by rw [hset, if_pos rfl]
  refine ⟨⟨by rw [List.length_set]; exact h.len, fun i' v h1 h2 => ?_, fun i' v h1 => ?_, hkeep t 0 h.root (by omega), fun i' v h1 h2 => ?_, fun i' j' v hadj h1 h2 h3 => ?_⟩, hkeep, hself⟩
  · rw [hset] at h1
    split at h1
    · rename_i e; subst e
      exact (h.sound i _ hi (by omega)).trans ha.reach
    · exact h.sound i' v h1 h2
  · rw [hset] at h1
    split at h1
    · injection h1 with h1; omega
    · exact h.low i' v h1
  · rw [hset] at h1
    split at h1
    · injection h1 with h1
      have : v = k := by omega
      subst this
      exact ⟨i, hkeep i _ hi (by omega)⟩
    · obtain ⟨j', h3⟩ := h.prev i' v h1 h2
      exact ⟨j', hkeep j' v h3 h2⟩
  · rw [hset] at h1
    split at h1
    · injection h1 with h1; omega
    · obtain ⟨u', h4, h5⟩ := h.old i' j' v hadj h1 h2 h3
      exact ⟨u', hkeep j' u' h4 h5, h5⟩
theorem seenL.keep {x : Lnk} {out' : List Int} (h : seenL g k out x) (hk : ∀ (i : Nat) (v : Int), out[i]? = some v → 0 ≤ v → out'[i]? = some v) (hb : ∀ i : Nat, out'[i]? = some (k : Int) → out[i]? = some (k : Int)) : seenL g k out' x := fun i j hi hj => by
  obtain ⟨h1, h2⟩ := h i j hi hj
  refine ⟨fun h3 => ?_, fun h3 => ?_⟩
  · obtain ⟨u, h4, h5⟩ := h1 (hb i h3)
    exact ⟨u, hk j u h4 h5, h5⟩
  · obtain ⟨u, h4, h5⟩ := h2 (hb j h3)
    exact ⟨u, hk i u h4 h5, h5⟩
theorem put_back {j : Nat} (i : Nat) (hjl : j < out.length) (h : (out.set j ((k : Int) + 1))[i]? = some (k : Int)) : out[i]? = some (k : Int) := by
  rw [List.getElem?_set] at h
  split at h
  · injection h with h; omega
  · exact h
theorem FW.put (h : FW g t k m out) {i j : Nat} {u : Int} (ha : AdjI g i j) (hi : out[i]? = some (k : Int)) (hj : out[j]? = some u) (hu : u < 0) : FW g t k m (out.set j ((k : Int) + 1)) := by
  obtain ⟨h1, h2, _⟩ := h.c.put ha hi hj hu
  have hjl : j < out.length := (List.getElem?_eq_some_iff.1 hj).1
  exact ⟨h1, fun x hx => (h.seen x hx).keep h2 (fun i h3 => put_back i hjl h3)⟩
theorem FW.next (h : FW g t k m out) {x : Lnk} (hx : g.links[m]? = some x) (hs : seenL g k out x) : FW g t k (m + 1) out := ⟨h.c, seen_snoc hx h.seen hs⟩
theorem FW.done (h : FW g t k m out) (hm : g.links.length = m) : FR g t (k + 1) out := by
  have hall : ∀ x ∈ g.links, seenL g k out x := fun x hx => h.seen x (by rw [List.take_of_length_le (by omega)]; exact hx)
  refine ⟨⟨h.c.len, h.c.sound, fun i v hv => ?_, h.c.root, h.c.prev, fun i j v ha hv h0 hk => ?_⟩, fun i v hv => ?_⟩
  · have := h.c.low i v hv; omega
  · by_cases e : v = (k : Int)
    · subst e
      obtain ⟨x, hx, ⟨h1, h2⟩ | ⟨h1, h2⟩⟩ := ha
      · exact (hall x hx i j h1 h2).1 hv
      · exact (hall x hx j i h2 h1).2 hv
    · exact h.c.old i j v ha hv h0 (by omega)
  · have := h.c.low i v hv; omega
theorem fr_vals (h : FC g t k out) : ∀ (v : Nat) (i : Nat), out[i]? = some (v : Int) → ∀ u : Nat, u ≤ v → ∃ j : Nat, out[j]? = some (u : Int)
  | 0, i, hi, u, hu => by obtain rfl : u = 0 := by omega
                          exact ⟨i, hi⟩
  | v + 1, i, hi, u, hu => by
    rcases Nat.lt_or_ge v u with h1 | h1
    · obtain rfl : u = v + 1 := by omega
      exact ⟨i, hi⟩
    · obtain ⟨j, hj⟩ := h.prev i (v : Int) (by simpa using hi) (by omega)
      exact fr_vals h v j hj u h1
/-- As many rounds as there are dies: known is what is reached. -/
theorem FR.all (h : FR g t k out) (hg : GrOk g) (hk : (diesG g).length = k) (i : Nat) : (∃ v : Int, out[i]? = some v ∧ 0 ≤ v) ↔ ReachI g t i := by
  have hno : ∀ i : Nat, out[i]? ≠ some (k : Int) := fun i hi => by
    have hv := fr_vals h.c k i hi
    have h1 : ((List.range (k + 1)).map (fun u : Nat => (u : Int))).length ≤ out.length := by
      refine nodup_sub_len ?_ fun x hx => ?_
      · show List.Pairwise _ _
        rw [List.pairwise_map]
        exact (List.pairwise_lt_range (n := k + 1)).imp (fun {a b} h e => by
          have : a = b := by exact_mod_cast e
          omega)
      · obtain ⟨u, hu, rfl⟩ := List.mem_map.1 hx
        obtain ⟨j, hj⟩ := hv u (by have := List.mem_range.1 hu; omega)
        exact List.mem_of_getElem? hj
    rw [List.length_map, List.length_range, h.c.len] at h1
    omega
  constructor
  · rintro ⟨v, hv, h0⟩
    exact h.c.sound i v hv h0
  · rintro ⟨a, b, ha, hb, hr⟩
    have hcl : ∀ c, Reach g a c → ∀ j : Nat, (diesG g)[j]? = some c → ∃ v : Int, out[j]? = some v ∧ 0 ≤ v := fun c hc => by
      induction hc with
      | refl =>
        intro j hj
        have hl := (List.getElem?_eq_some_iff.1 ha).1
        obtain rfl : t = j := (List.getElem?_inj hl (diesG_nodup hg)).1 (ha.trans hj.symm)
        exact ⟨0, h.c.root, Int.le_refl _⟩
      | @step b1 c1 h1 h2 ih =>
        intro j hj
        have hm : b1 ∈ diesG g := h1.mem hg (List.mem_of_getElem? ha)
        obtain ⟨i1, hi1⟩ := List.getElem?_of_mem hm
        obtain ⟨v, hv, h0⟩ := ih i1 hi1
        have h3 := h.top i1 v hv
        have h4 : v ≠ (k : Int) := fun e => hno i1 (e ▸ hv)
        refine h.c.old i1 j v ?_ hv h0 (by omega)
        obtain ⟨x, hx, hxb⟩ := h2
        rcases across_iff.1 hxb with ⟨e1, e2⟩ | ⟨e1, e2⟩
        · exact ⟨x, hx, .inl ⟨by rw [← e1]; exact hi1, by rw [← e2]; exact hj⟩⟩
        · exact ⟨x, hx, .inr ⟨by rw [← e1]; exact hi1, by rw [← e2]; exact hj⟩⟩
    exact hcl b hr i hb
end
end Go.Proofs.YtdokpmfejibdlaaGreatDoor
set_option linter.unusedSimpArgs false
set_option linter.unusedVariables false
namespace Go.Proofs.YtdokpmfejibdlaaGreatDoor

def endL (x : Lnk) (side : Int) : Int := if side = 0 then x.obv else x.rev
def touchL (d : DieP) (x : Lnk) : Bool := endL x d.side == d.num
def degG (g : Gr) (d : DieP) : Nat := g.links.countP (touchL d)
def partnersG (g : Gr) (d : DieP) : List Int := uniqI ((g.links.filter (touchL d)).map (fun x => endL x (1 - d.side)))
def cntL (g : Gr) (o r : Int) : Nat := g.links.countP (fun x => x.obv == o && x.rev == r)
def matrixG (g : Gr) : List (List Int) := g.obv.map (fun o => g.rev.map (fun r => (cntL g o r : Int)))
def pairsG (g : Gr) : List (Int × Int) := g.obv.flatMap (fun o => (g.rev.filter (fun r => decide (0 < cntL g o r))).map (fun r => (o, r)))
def ltPW (a b : Int × Int) : Prop := a.1 < b.1 ∨ (a.1 = b.1 ∧ a.2 < b.2)
theorem cntL_pos {g : Gr} {o r : Int} : 0 < cntL g o r ↔ ∃ x ∈ g.links, x.obv = o ∧ x.rev = r := by
  unfold cntL
  rw [List.countP_pos_iff]
  constructor
  · rintro ⟨x, hx, h⟩
    rw [Bool.and_eq_true, beq_iff_eq, beq_iff_eq] at h
    exact ⟨x, hx, h⟩
  · rintro ⟨x, hx, h⟩
    exact ⟨x, hx, by rw [Bool.and_eq_true, beq_iff_eq, beq_iff_eq]; exact h⟩
theorem pairsG_mem {g : Gr} (hg : GrOk g) {p : Int × Int} : p ∈ pairsG g ↔ ∃ x ∈ g.links, (x.obv, x.rev) = p := by
  obtain ⟨o, r⟩ := p
  unfold pairsG
  rw [List.mem_flatMap]
  constructor
  · rintro ⟨o', _, h⟩
    obtain ⟨r', hr', e⟩ := List.mem_map.1 h
    injection e with e1 e2
    subst e1 e2
    obtain ⟨x, hx, h1, h2⟩ := cntL_pos.1 (of_decide_eq_true (List.mem_filter.1 hr').2)
    exact ⟨x, hx, by rw [h1, h2]⟩
  · rintro ⟨x, hx, e⟩
    injection e with e1 e2
    refine ⟨o, (hg.eo o).2 ⟨x, hx, e1⟩, List.mem_map.2 ⟨r, List.mem_filter.2 ⟨(hg.er r).2 ⟨x, hx, e2⟩, decide_eq_true (cntL_pos.2 ⟨x, hx, e1, e2⟩)⟩, rfl⟩⟩
theorem pairsG_asc {g : Gr} (hg : GrOk g) : (pairsG g).Pairwise ltPW := by
  unfold pairsG
  have h := hg.ao
  generalize g.obv = os at h
  induction os with
  | nil => simp
  | cons o os ih =>
    obtain ⟨h1, h2⟩ := List.pairwise_cons.1 h
    rw [List.flatMap_cons, List.pairwise_append]
    refine ⟨?_, ih h2, fun a ha b hb => ?_⟩
    · rw [List.pairwise_map]
      exact (hg.ar.sublist List.filter_sublist).imp (fun h => .inr ⟨rfl, h⟩)
    · obtain ⟨r, _, rfl⟩ := List.mem_map.1 ha
      obtain ⟨o', ho', hb'⟩ := List.mem_flatMap.1 hb
      obtain ⟨r', _, rfl⟩ := List.mem_map.1 hb'
      exact .inl (h1 o' ho')
/-- Equal neighbours struck. -/
def compP : List (Int × Int) → List (Int × Int)
  | [] => []
  | [x] => [x]
  | x :: y :: r => if x = y then compP (y :: r) else x :: compP (y :: r)
theorem compP_mem {z : Int × Int} : ∀ l : List (Int × Int), z ∈ compP l ↔ z ∈ l
  | [] => by simp [compP]
  | [x] => by simp [compP]
  | x :: y :: r => by
    unfold compP
    split
    · rename_i h
      subst h
      rw [compP_mem (x :: r)]
      simp
    · rw [List.mem_cons, compP_mem (y :: r), List.mem_cons (l := y :: r)]
theorem ltPW_trans {a b c : Int × Int} (h1 : ltPW a b) (h2 : ltPW b c) : ltPW a c := by unfold ltPW at *; omega
theorem ltPW_irr (a : Int × Int) : ¬ ltPW a a := by unfold ltPW; omega
theorem ltPW_tri (a b : Int × Int) : ltPW a b ∨ a = b ∨ ltPW b a := by
  obtain ⟨a1, a2⟩ := a
  obtain ⟨b1, b2⟩ := b
  unfold ltPW
  simp only [Prod.mk.injEq]
  omega
theorem compP_asc : ∀ l : List (Int × Int), l.Pairwise (fun a b => ¬ ltPW b a) → (compP l).Pairwise ltPW
  | [], _ => by simp [compP]
  | [x], _ => by simp [compP]
  | x :: y :: r, h => by
    obtain ⟨h1, h2⟩ := List.pairwise_cons.1 h
    have ih := compP_asc (y :: r) h2
    unfold compP
    split
    · exact ih
    · rename_i hne
      rw [List.pairwise_cons]
      refine ⟨fun z hz => ?_, ih⟩
      have hz' := (compP_mem (y :: r)).1 hz
      have hxy : ltPW x y := by
        rcases ltPW_tri x y with h3 | h3 | h3
        · exact h3
        · exact absurd h3 hne
        · exact absurd h3 (h1 y (by simp))
      rcases List.mem_cons.1 hz' with rfl | hz'
      · exact hxy
      · rcases ltPW_tri y z with h4 | h4 | h4
        · exact ltPW_trans hxy h4
        · rw [← h4]; exact hxy
        · exact absurd h4 ((List.pairwise_cons.1 h2).1 z hz')
theorem pairs_prog {g : Gr} (hg : GrOk g) {ys : List (Int × Int)} (hp : ys.Perm (g.links.map (fun x => (x.obv, x.rev)))) (hs : ys.Pairwise (fun a b => ¬ ltPW b a)) : compP ys = pairsG g := by
  have nd : ∀ l : List (Int × Int), l.Pairwise ltPW → l.Nodup := fun l h => h.imp (fun h e => by subst e; exact ltPW_irr _ h)
  have h1 := compP_asc ys hs
  have h2 := pairsG_asc hg
  refine List.Perm.eq_of_pairwise (le := ltPW) (fun a b _ _ h3 h4 => absurd (ltPW_trans h3 h4) (ltPW_irr _)) h1 h2 ((List.perm_ext_iff_of_nodup (nd _ h1) (nd _ h2)).2 fun p => ?_)
  rw [compP_mem, hp.mem_iff, List.mem_map, pairsG_mem hg]
/-- The states of a die. -/
def sideW (s : Spm) (side : Int) : Int × Int := if side = 0 then (s.obv, s.os) else (s.rev, s.rs)
def statesS (xs : List Spm) (d : DieP) : List Int := uniqI ((xs.filter (fun s => (sideW s d.side).1 == d.num)).map (fun s => (sideW s d.side).2))
/-- .. as the reference goes through them. -/
theorem states_ref (xs : List Spm) (d : DieP) (h : ∀ s ∈ xs, 1 ≤ (sideW s d.side).2 ∧ (sideW s d.side).2 ≤ 9) : statesS xs d = ((List.range 9).map (fun k : Nat => (k : Int) + 1)).filter (fun k => xs.any (fun s => (sideW s d.side).1 == d.num && (sideW s d.side).2 == k)) := by
  unfold statesS
  have ha : (((List.range 9).map (fun k : Nat => (k : Int) + 1))).Pairwise (· < ·) := by decide
  refine ascW_unique (uniqI_asc _) (ha.sublist List.filter_sublist) fun z => ?_
  rw [uniqI_mem, List.mem_map, List.mem_filter]
  constructor
  · rintro ⟨s, hs, rfl⟩
    obtain ⟨h1, h2⟩ := List.mem_filter.1 hs
    obtain ⟨h3, h4⟩ := h s h1
    refine ⟨List.mem_map.2 ⟨((sideW s d.side).2 - 1).toNat, List.mem_range.2 (by omega), by omega⟩, List.any_eq_true.2 ⟨s, h1, ?_⟩⟩
    rw [h2]
    simp
  · rintro ⟨_, h1⟩
    obtain ⟨s, hs, h2⟩ := List.any_eq_true.1 h1
    rw [Bool.and_eq_true, beq_iff_eq] at h2
    exact ⟨s, List.mem_filter.2 ⟨hs, by simpa using h2.1⟩, by simpa using h2.2⟩
/-- Classes of weights. -/
def withinW (l : List Int) (lo hi : Int) : Nat := l.countP (fun w => decide (lo ≤ w) && decide (w < hi))
def tableE (low step n : Int) : Int := if 0 ≤ low ∧ low ≤ 200000 ∧ 1 ≤ step ∧ step ≤ 10000 ∧ 1 ≤ n ∧ n ≤ 64 then 0 else 2
def tableW (l : List Int) (low step : Int) (n : Nat) : List Int := (withinW l 0 low : Int) :: ((List.range n).map (fun k : Nat => (withinW l (low + k * step) (low + (k + 1) * step) : Int))) ++ [(withinW l (low + n * step) 200001 : Int)]
theorem within_top {l : List Int} (h : ∀ w ∈ l, w ≤ 200000) (lo : Int) {hi : Int} (hh : 200000 < hi) : withinW l lo hi = withinW l lo 200001 := by
  unfold withinW
  refine List.countP_congr fun w hw => ?_
  have := h w hw
  simp only [Bool.and_eq_true, decide_eq_true_eq]
  omega
end Go.Proofs.YtdokpmfejibdlaaGreatDoor
