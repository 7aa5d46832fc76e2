/- Chapter 46: the reference's ways to sales and suspects, in plain words. -/
import Derived.Test.YtccmchmemafjdaaGreatDoorPh
import Derived.Test.YtccmchmemafjdaaGreatDoorPk
set_option linter.unusedSimpArgs false
set_option linter.unusedVariables false
namespace Go.Proofs.YtccmchmemafjdaaGreatDoor
open Go.RowKit

theorem split_at {α : Type} {s : List α} {k : Nat} {y : α} (h : s[k]? = some y) : ∃ p q, s = p ++ y :: q ∧ p.length = k := by
  obtain ⟨hk, rfl⟩ := List.getElem?_eq_some_iff.1 h
  exact ⟨s.take k, s.drop (k + 1), by rw [← List.drop_eq_getElem_cons hk, List.take_append_drop], by rw [List.length_take]; omega⟩
/-- The new one at place k of a list. -/
def insT {α : Type} (s : List α) (x : α) (k : Nat) : List α := s.take k ++ x :: s.drop k
section
variable {α : Type} {s : List α} {x y : α} {k : Nat}
theorem insT_start (s : List α) (x : α) : insT s x s.length = s ++ [x] := by unfold insT; rw [List.take_length, List.drop_length]
theorem insT_len (hk : k ≤ s.length) : (insT s x k).length = s.length + 1 := by unfold insT; simp; omega
theorem insT_at (hk : k ≤ s.length) : (insT s x k)[k]? = some x := by
  unfold insT
  rw [List.getElem?_append_right (by rw [List.length_take]; omega), List.length_take, Nat.min_eq_left hk, Nat.sub_self]
  rfl
theorem insT_before (hy : s[k]? = some y) : (insT s x (k + 1))[k]? = some y := by
  have hk := (List.getElem?_eq_some_iff.1 hy).1
  unfold insT
  rw [List.getElem?_append_left (by rw [List.length_take]; omega), List.getElem?_take_of_lt (by omega)]
  exact hy
theorem insT_swap (hy : s[k]? = some y) : ((insT s x (k + 1)).set (k + 1) y).set k x = insT s x k := by
  obtain ⟨p, q, rfl, hp⟩ := split_at hy
  have h1 : (p ++ y :: q).take (k + 1) = p ++ [y] := by
    rw [List.take_append, List.take_of_length_le (by omega), show k + 1 - p.length = 1 by omega]; rfl
  have h2 : (p ++ y :: q).drop (k + 1) = q := by
    rw [List.drop_append, List.drop_of_length_le (by omega), show k + 1 - p.length = 1 by omega]; rfl
  have h3 : (p ++ y :: q).take k = p := by rw [← hp]; simp
  have h4 : (p ++ y :: q).drop k = y :: q := by rw [← hp]; simp
  unfold insT
  rw [h1, h2, h3, h4, List.append_assoc]
  subst hp
  simp [List.set_append]
theorem insT_perm (s : List α) (x : α) (k : Nat) : (insT s x k).Perm (s ++ [x]) := by
  unfold insT
  refine List.perm_middle.trans ?_
  rw [List.take_append_drop]
  exact (List.perm_append_comm (l₁ := [x]) (l₂ := s))
end
/-- The names of all Ids taken so far, ascending. -/
structure InsI (ls : List Lst) (i : Nat) (s : List Int) : Prop where
  asc : s.Pairwise (· < ·)
  perm : s.Perm (idsL (ls.take i))
theorem InsI.start (ls : List Lst) : InsI ls 0 [] := ⟨List.Pairwise.nil, by simp [idsL]⟩
theorem InsI.len {ls : List Lst} {i : Nat} {s : List Int} (h : InsI ls i s) (hi : i ≤ ls.length) : s.length = i := by
  rw [h.perm.length_eq]; unfold idsL; simp; omega
theorem InsI.snoc {ls : List Lst} {i k : Nat} {s : List Int} {l : Lst} (h : InsI ls i s) (hnd : (idsL ls).Nodup) (hl : ls[i]? = some l) (hk : k ≤ s.length) (hgt : ∀ y ∈ s.drop k, l.id < y)
    (hle : k = 0 ∨ ∃ y, s[k - 1]? = some y ∧ ¬ l.id < y) : InsI ls (i + 1) (insT s l.id k) := by
  have hperm : (insT s l.id k).Perm (idsL (ls.take (i + 1))) := by
    refine (insT_perm s l.id k).trans ?_
    rw [take_snocS hl]
    unfold idsL
    rw [List.map_append]
    exact h.perm.append_right _
  have hnew : l.id ∉ s := fun hm => by
    have h1 : (idsL (ls.take (i + 1))).Nodup := by
      refine hnd.sublist ?_
      unfold idsL
      exact (List.take_sublist _ _).map _
    rw [take_snocS hl] at h1
    unfold idsL at h1
    rw [List.map_append] at h1
    have := List.nodup_append.1 h1
    exact this.2.2 l.id ((h.perm.mem_iff).1 hm) l.id (by simp) rfl
  refine ⟨?_, hperm⟩
  unfold insT
  rw [List.pairwise_append]
  refine ⟨h.asc.sublist (List.take_sublist _ _), List.pairwise_cons.2 ⟨hgt, h.asc.sublist (List.drop_sublist _ _)⟩, fun a ha b hb => ?_⟩
  have hlow : ∀ a ∈ s.take k, a < l.id := fun a ha => by
    rcases hle with rfl | ⟨y, hy, hny⟩
    · simp at ha
    · have hk0 : 0 < k := by
        rcases Nat.eq_zero_or_pos k with rfl | h0
        · simp at ha
        · exact h0
      have hyl : y < l.id := by
        have hne : y ≠ l.id := fun e => hnew (e ▸ List.mem_of_getElem? hy)
        omega
      obtain ⟨j, hj, rfl⟩ := List.mem_take_iff_getElem.1 ha
      have hj2 : j < s.length := by omega
      rcases Nat.lt_or_ge j (k - 1) with h1 | h1
      · obtain ⟨hk1, e⟩ := List.getElem?_eq_some_iff.1 hy
        have := (List.pairwise_iff_getElem.1 h.asc) j (k - 1) hj2 hk1 h1
        rw [e] at this
        exact Int.lt_trans this hyl
      · have hjk : j = k - 1 := by omega
        subst hjk
        rw [List.getElem?_eq_getElem hj2] at hy
        injection hy with hy
        rw [hy]
        exact hyl
  rcases List.mem_cons.1 hb with rfl | hb
  · exact hlow a ha
  · exact Int.lt_trans (hlow a ha) (hgt b hb)
theorem InsI.all {ls : List Lst} {s : List Int} (h : InsI ls ls.length s) (hnd : (idsL ls).Nodup) : s = sortI (idsL ls) :=
  asc_unique h.asc (sortI_lt hnd) fun x => by
    rw [sortI_mem, h.perm.mem_iff, List.take_length]
theorem drop_gt {s : List Int} {k : Nat} {x y : Int} (hy : s[k]? = some y) (h : x < y) (hgt : ∀ z ∈ s.drop (k + 1), x < z) : ∀ z ∈ s.drop k, x < z := fun z hz => by
  obtain ⟨hk, rfl⟩ := List.getElem?_eq_some_iff.1 hy
  rw [List.drop_eq_getElem_cons hk] at hz
  rcases List.mem_cons.1 hz with rfl | hz
  · exact h
  · exact hgt z hz

/-- New lists of numbers, off the row that holds their headers. -/
structure RoD (w : World) (row : Option Nat) (vs : List Value) (qs : List (List Int)) : Prop where
  len : vs.length = qs.length
  each : ∀ (i : Nat) (v : Value) (z : List Int), vs[i]? = some v → qs[i]? = some z → ∃ a m c, v = .slice a m c ∧ (m ≤ 1000000 ∧ m ≤ c) ∧ Sl w 0 w.heap.size 1 encI a m z ∧ ∀ b off, a = some ⟨b, off, none⟩ → 0 < m → some b ≠ row
theorem RoD.start (w : World) (row : Option Nat) : RoD w row [] [] := ⟨rfl, fun i v r h => by simp at h⟩
theorem RoD.up {w w' : World} {row : Option Nat} {vs : List Value} {qs : List (List Int)} (h : RoD w row vs qs) (hb : Below w.heap.size w w') : RoD w' row vs qs :=
  ⟨h.len, fun i v r hv hr => by
    obtain ⟨a, m, c, h1, h2, h3, h4⟩ := h.each i v r hv hr
    exact ⟨a, m, c, h1, h2, h3.up hb (Nat.le_refl _) (Nat.le_refl _), h4⟩⟩
theorem RoD.grown {w w' : World} {row row' : Option Nat} {vs : List Value} {qs : List (List Int)} (h : RoD w row vs qs) (hg : w.grownBy w' row) (hr : row' = row ∨ row' = some w.heap.size) : RoD w' row' vs qs :=
  ⟨h.len, fun i v r hv hrr => by
    obtain ⟨a, m, c, h1, h2, h3, h4⟩ := h.each i v r hv hrr
    refine ⟨a, m, c, h1, h2, Sl.grownOff h3 hg h4, fun b off hA hn => ?_⟩
    rcases hr with rfl | rfl
    · exact h4 b off hA hn
    · obtain ⟨g, o, e1, _, e3, _⟩ := h3.2 hn
      rw [hA] at e1
      cases e1
      intro e
      injection e with e
      omega⟩
theorem RoD.snoc {w : World} {row : Option Nat} {vs : List Value} {qs : List (List Int)} (h : RoD w row vs qs) {a : Option Addr} {m c : Nat} {z : List Int} (h2 : m ≤ 1000000 ∧ m ≤ c) (h3 : Sl w 0 w.heap.size 1 encI a m z) (h4 : ∀ b off, a = some ⟨b, off, none⟩ → 0 < m → some b ≠ row) : RoD w row (vs ++ [.slice a m c]) (qs ++ [z]) := by
  refine ⟨by simp [h.len], fun i v' r' hv hr => ?_⟩
  rcases Nat.lt_or_ge i vs.length with hi | hi
  · rw [List.getElem?_append_left hi] at hv
    rw [List.getElem?_append_left (by rw [← h.len]; exact hi)] at hr
    exact h.each i v' r' hv hr
  · rw [List.getElem?_append_right hi] at hv
    rw [List.getElem?_append_right (by rw [← h.len]; exact hi), ← h.len] at hr
    have hlt := (List.getElem?_eq_some_iff.1 hv).1
    simp only [List.length_singleton] at hlt
    have h0 : i - vs.length = 0 := by omega
    rw [h0] at hv hr
    simp only [List.getElem?_cons_zero, Option.some.injEq] at hv hr
    subst hv hr
    exact ⟨a, m, c, rfl, h2, h3, h4⟩
theorem RoD.los {w : World} {row : Option Nat} {vs : List Value} {qs : List (List Int)} {A : Option Addr} {n : Nat} (h : RoD w row vs qs) (hS : Sl w 0 w.heap.size 1 (fun v => [v]) A n vs) : LoS w A n qs :=
  ⟨vs, hS, h.len, fun i v z hv hz => by
    obtain ⟨a, m, c, h1, h2, h3, _⟩ := h.each i v z hv hz
    exact ⟨a, m, c, h1, h2, h3⟩⟩
/-- The groups that are made of the first Ids. -/
def grpsT (s : List Int) (g : Int → Int) (i : Nat) : List (List Int) := ((s.take i).map (fun r => s.filter (fun a => decide (g a = r)))).filter (fun z => !z.isEmpty)
theorem grpsT_snoc {s : List Int} {g : Int → Int} {i : Nat} {r : Int} (h : s[i]? = some r) : grpsT s g (i + 1) = grpsT s g i ++ (if (s.filter (fun a => decide (g a = r))).isEmpty then [] else [s.filter (fun a => decide (g a = r))]) := by
  unfold grpsT
  rw [take_snocS h, List.map_append, List.filter_append]
  congr 1
  simp only [List.map_cons, List.map_nil, List.filter_cons, List.filter_nil]
  cases (s.filter (fun a => decide (g a = r))).isEmpty <;> simp
theorem grpsT_all {ids : List Int} {g : Int → Int} : grpsT (sortI ids) g (sortI ids).length = groupsR ids g := by
  unfold grpsT groupsR
  rw [List.take_length]
  rfl
theorem grpsT_len {s : List Int} {g : Int → Int} {i : Nat} : (grpsT s g i).length ≤ i := by
  unfold grpsT
  refine Nat.le_trans (List.length_filter_le _ _) ?_
  rw [List.length_map, List.length_take]
  omega
theorem filt_snoc {s : List Int} {p : Int → Bool} {k : Nat} {a : Int} (h : s[k]? = some a) : (s.take (k + 1)).filter p = (s.take k).filter p ++ (if p a then [a] else []) := by
  rw [take_snocS h, List.filter_append]
  congr 1
  simp [List.filter_cons]
end Go.Proofs.YtccmchmemafjdaaGreatDoor
set_option linter.unusedSimpArgs false
set_option linter.unusedVariables false
namespace Go.Proofs.YtccmchmemafjdaaGreatDoor
open Go.RowKit

theorem insS_cut {x : Sal} : ∀ (k : Nat) (l : List Sal), (∀ y ∈ l.take k, ltSal y x) → (k = l.length ∨ ∃ y, l[k]? = some y ∧ ¬ ltSal y x) → insS x l = if l[k]? = some x then l else l.take k ++ x :: l.drop k
  | 0, [], _, _ => by simp [insS]
  | 0, y :: r, _, h2 => by
    have hy : ¬ ltSal y x := by
      rcases h2 with h | ⟨z, hz, h⟩
      · simp at h
      · have : y = z := by simpa using hz
        subst this; exact h
    unfold insS
    rw [if_neg hy]
    by_cases e : y = x
    · simp [e]
    · simp [e]
  | k + 1, [], _, h2 => by
    rcases h2 with h | ⟨z, hz, _⟩
    · simp at h
    · simp at hz
  | k + 1, y :: r, h1, h2 => by
    have hy : ltSal y x := h1 y (by simp)
    have ih := insS_cut k r (fun z hz => h1 z (by simp [hz])) (by
      rcases h2 with h | ⟨z, hz, h⟩
      · left; simpa using h
      · right; exact ⟨z, by simpa using hz, h⟩)
    unfold insS
    rw [if_pos hy, ih]
    simp only [List.getElem?_cons_succ, List.take_succ_cons, List.drop_succ_cons]
    split <;> simp
theorem insS_len (x : Sal) : ∀ l : List Sal, (insS x l).length ≤ l.length + 1
  | [] => by simp [insS]
  | y :: r => by
    unfold insS
    split
    · have := insS_len x r
      simp only [List.length_cons]; omega
    · split <;> simp
theorem mergeS_len : ∀ l : List Sal, (mergeS l).length ≤ l.length := by
  refine snoc_ind (by simp [mergeS]) fun l x ih => ?_
  rw [mergeS_snoc, List.length_append, List.length_singleton]
  exact Nat.le_trans (insS_len x _) (by omega)

/-! ### Suspects: whoever comes later under one first has the greater second. -/
def StabP (a b : Int × Int) : Prop := a.1 = b.1 → a.2 < b.2
theorem susA_pw {ls : List Lst} {a : Int} {zs : List Int} (h : zs.Pairwise (· < ·)) : (susA ls a zs).Pairwise StabP := by
  unfold susA
  rw [List.pairwise_map]
  have h2 := h.sublist (List.filter_sublist (p := fun b => twiceI ls a b))
  exact h2.imp (S := fun x y => StabP (a, x) (a, y)) fun {x y} hxy _ => hxy
theorem susA_fst {ls : List Lst} {a : Int} {zs : List Int} {p : Int × Int} (h : p ∈ susA ls a zs) : p.1 = a := by
  unfold susA at h
  obtain ⟨b, _, rfl⟩ := List.mem_map.1 h
  rfl
theorem susZ_fst {ls : List Lst} : ∀ {zs : List Int} {p : Int × Int}, p ∈ susZ ls zs → p.1 ∈ zs
  | [], p, h => by simp [susZ] at h
  | a :: r, p, h => by
    unfold susZ at h
    rcases List.mem_append.1 h with h | h
    · rw [susA_fst h]; simp
    · exact List.mem_cons_of_mem _ (susZ_fst h)
theorem susZ_pw {ls : List Lst} : ∀ {zs : List Int}, zs.Pairwise (· < ·) → (susZ ls zs).Pairwise StabP
  | [], _ => by simp [susZ]
  | a :: r, h => by
    obtain ⟨h1, h2⟩ := List.pairwise_cons.1 h
    unfold susZ
    rw [List.pairwise_append]
    refine ⟨susA_pw h, susZ_pw h2, fun p hp q hq e => ?_⟩
    have e1 := susA_fst hp
    have e2 := h1 _ (susZ_fst hq)
    omega
theorem grp_asc {ids : List Int} {g : Int → Int} (hnd : ids.Nodup) (r : Int) : (grpOf ids g r).Pairwise (· < ·) := by
  unfold grpOf
  exact (sortI_lt hnd).sublist List.filter_sublist
theorem susRaw_pw {ls : List Lst} (hnd : (idsL ls).Nodup) : (susRaw ls).Pairwise StabP := by
  unfold susRaw grpsL groupsOf
  rw [List.flatMap_map]
  have h := (sortI_lt hnd).sublist (List.filter_sublist (p := fun r => decide (nmU ls [] r = r)) (l := sortI (idsL ls)))
  generalize (sortI (idsL ls)).filter (fun r => decide (nmU ls [] r = r)) = ks at h
  induction ks with
  | nil => simp
  | cons k ks ih =>
    obtain ⟨h1, h2⟩ := List.pairwise_cons.1 h
    rw [List.flatMap_cons, List.pairwise_append]
    refine ⟨susZ_pw (grp_asc hnd k), ih h2, fun p hp q hq e => ?_⟩
    obtain ⟨k', hk', hq'⟩ := List.mem_flatMap.1 hq
    have e1 := (mem_grp.1 (susZ_fst hp)).2
    have e2 := (mem_grp.1 (susZ_fst hq')).2
    have e3 := h1 k' hk'
    rw [e] at e1
    omega
/-- Pairs taken one by one, each set behind those whose first is not greater. -/
structure StI (ps s : List (Int × Int)) : Prop where
  asc : s.Pairwise (fun a b => ¬ ltPr b a)
  perm : s.Perm ps
theorem StI.start : StI [] [] := ⟨List.Pairwise.nil, List.Perm.refl _⟩
theorem StI.snoc {ps s : List (Int × Int)} {x : Int × Int} {k : Nat} (h : StI ps s) (hpw : (ps ++ [x]).Pairwise StabP) (hk : k ≤ s.length) (hgt : ∀ y ∈ s.drop k, x.1 < y.1) (hle : k = 0 ∨ ∃ y, s[k - 1]? = some y ∧ ¬ x.1 < y.1) : StI (ps ++ [x]) (insT s x k) := by
  refine ⟨?_, (insT_perm s x k).trans (h.perm.append_right _)⟩
  have hold : ∀ y ∈ s, y.1 = x.1 → y.2 < x.2 := fun y hy e => (List.pairwise_append.1 hpw).2.2 y (h.perm.subset hy) x (by simp) e
  have hlow : ∀ a ∈ s.take k, ¬ ltPr x a := fun a ha => by
    have has : a ∈ s := List.mem_of_mem_take ha
    have h2 := hold a has
    have hax : a.1 ≤ x.1 := by
      rcases hle with rfl | ⟨y, hy, hny⟩
      · simp at ha
      · have hk0 : 0 < k := by
          rcases Nat.eq_zero_or_pos k with rfl | h0
          · simp at ha
          · exact h0
        obtain ⟨j, hj, rfl⟩ := List.mem_take_iff_getElem.1 ha
        have hj2 : j < s.length := by omega
        obtain ⟨hk1, e⟩ := List.getElem?_eq_some_iff.1 hy
        rcases Nat.lt_or_ge j (k - 1) with h1 | h1
        · have := (List.pairwise_iff_getElem.1 h.asc) j (k - 1) hj2 hk1 h1
          rw [e] at this
          unfold ltPr at this
          omega
        · have hjk : j = k - 1 := by omega
          subst hjk
          rw [e]; omega
    unfold ltPr
    by_cases e : a.1 = x.1
    · have := h2 e
      omega
    · omega
  unfold insT
  rw [List.pairwise_append]
  refine ⟨h.asc.sublist (List.take_sublist _ _), List.pairwise_cons.2 ⟨fun y hy => ?_, h.asc.sublist (List.drop_sublist _ _)⟩, fun a ha b hb => ?_⟩
  · have := hgt y hy
    unfold ltPr
    omega
  · rcases List.mem_cons.1 hb with rfl | hb
    · exact hlow a ha
    · have h3 := hgt b hb
      have h1 := hlow a ha
      unfold ltPr at h1 ⊢
      omega
theorem StI.all {ls : List Lst} {s : List (Int × Int)} (h : StI (susRaw ls) s) : s = susL ls := sus_unique h.perm h.asc
theorem drop_gtP {s : List (Int × Int)} {k : Nat} {x y : Int × Int} (hy : s[k]? = some y) (h : x.1 < y.1) (hgt : ∀ z ∈ s.drop (k + 1), x.1 < z.1) : ∀ z ∈ s.drop k, x.1 < z.1 := fun z hz => by
  obtain ⟨hk, rfl⟩ := List.getElem?_eq_some_iff.1 hy
  rw [List.drop_eq_getElem_cons hk] at hz
  rcases List.mem_cons.1 hz with rfl | hz
  · exact h
  · exact hgt z hz
theorem susA_sub (ls : List Lst) (a : Int) (zs : List Int) (j : Nat) : (susA ls a (zs.take j)).Sublist (susA ls a zs) := by
  unfold susA
  exact ((List.take_sublist _ _).filter _).map _
end Go.Proofs.YtccmchmemafjdaaGreatDoor
