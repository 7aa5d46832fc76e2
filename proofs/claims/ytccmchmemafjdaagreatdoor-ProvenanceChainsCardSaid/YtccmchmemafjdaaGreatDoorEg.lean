/- What the reference collects from a text of an edition, in plain words (chapter 47). -/
import Derived.Test.YtccmchmemafjdaaGreatDoorBase
import Derived.Test.YtccmchmemafjdaaGreatDoorSb
set_option linter.unusedSimpArgs false
set_option linter.unusedVariables false
namespace Go.Proofs.YtccmchmemafjdaaGreatDoor

/-- An edition: entries (key, value), and the numbers that are retired. -/
structure Ed where
  ents : List (Int × Int)
  ret : List Int
  deriving DecidableEq
def edZero : Ed := ⟨[], []⟩
def sortI (l : List Int) : List Int := l.mergeSort (fun a b => decide (a ≤ b))
theorem sortI_perm (l : List Int) : (sortI l).Perm l := List.mergeSort_perm l _
theorem sortI_mem (l : List Int) (x : Int) : x ∈ sortI l ↔ x ∈ l := (sortI_perm l).mem_iff
theorem sortI_len (l : List Int) : (sortI l).length = l.length := (sortI_perm l).length_eq
theorem sortI_le (l : List Int) : (sortI l).Pairwise (· ≤ ·) := by
  have h := List.pairwise_mergeSort (le := fun a b : Int => decide (a ≤ b)) (fun a b c h1 h2 => by simp only [decide_eq_true_eq] at *; omega) (fun a b => by simp only [Bool.or_eq_true, decide_eq_true_eq]; omega) l
  exact h.imp (fun h => by simpa using h)
theorem asc_nodup {l : List Int} (h : l.Pairwise (· < ·)) : l.Nodup := h.imp (fun h e => by omega)
theorem asc_unique {a b : List Int} (ha : a.Pairwise (· < ·)) (hb : b.Pairwise (· < ·)) (hm : ∀ x, x ∈ a ↔ x ∈ b) : a = b :=
  List.Perm.eq_of_pairwise (le := fun a b : Int => a ≤ b) (fun a b _ _ h3 h4 => by omega) (ha.imp (fun h => by omega)) (hb.imp (fun h => by omega))
    ((List.perm_ext_iff_of_nodup (asc_nodup ha) (asc_nodup hb)).2 hm)
theorem sortI_lt {l : List Int} (h : l.Nodup) : (sortI l).Pairwise (· < ·) := by
  have h2 : (sortI l).Nodup := (sortI_perm l).nodup_iff.2 h
  exact ((sortI_le l).and h2).imp (fun h => by have := h.1; have := h.2; omega)
theorem sortI_lt_iff {l : List Int} : (sortI l).Pairwise (· < ·) ↔ l.Nodup :=
  ⟨fun h => (sortI_perm l).nodup_iff.1 (asc_nodup h), sortI_lt⟩

/-- Ascending numbers from 1 to most, at most 64. -/
def okList (l : List Int) (most : Int) : Prop := l.Pairwise (· < ·) ∧ (∀ x ∈ l, 1 ≤ x ∧ x ≤ most) ∧ l.length ≤ 64
instance (l : List Int) (most : Int) : Decidable (okList l most) := by unfold okList; infer_instance
def keysE (e : Ed) : List Int := e.ents.map Prod.fst
def numsE (e : Ed) : List Int := e.ents.map Prod.snd
/-- Valid, as the program asks. -/
def validE (e : Ed) : Prop := okList (keysE e) 9999 ∧ okList (sortI (numsE e)) 999 ∧ okList e.ret 999 ∧ ∀ r ∈ e.ret, r ∉ numsE e
instance (e : Ed) : Decidable (validE e) := by unfold validE; infer_instance
theorem okList_sort {l : List Int} {m : Int} : okList (sortI l) m ↔ l.Nodup ∧ (∀ x ∈ l, 1 ≤ x ∧ x ≤ m) ∧ l.length ≤ 64 := by
  unfold okList
  rw [sortI_lt_iff, sortI_len]
  constructor
  · rintro ⟨h1, h2, h3⟩; exact ⟨h1, fun x hx => h2 x ((sortI_mem l x).2 hx), h3⟩
  · rintro ⟨h1, h2, h3⟩; exact ⟨h1, fun x hx => h2 x ((sortI_mem l x).1 hx), h3⟩
def findE (e : Ed) (key : Int) : Option Int := (e.ents.find? (fun x => x.1 == key)).map Prod.snd
def ownE (e : Ed) (n : Int) : Option Int := (e.ents.find? (fun x => x.2 == n)).map Prod.fst
theorem findE_some {e : Ed} {key n : Int} (h : findE e key = some n) : (key, n) ∈ e.ents := by
  unfold findE at h
  cases hf : e.ents.find? (fun x => x.1 == key) with
  | none => rw [hf] at h; cases h
  | some y =>
    rw [hf] at h
    have h1 := List.mem_of_find?_eq_some hf
    have h2 : y.1 = key := by simpa using List.find?_some hf
    have h3 : y.2 = n := by simpa using h
    rw [← h2, ← h3]; exact h1
theorem findE_none {e : Ed} {key : Int} : findE e key = none ↔ key ∉ keysE e := by
  unfold findE keysE; simp
  exact ⟨fun h x hx => h key x hx rfl, fun h a b hab e => h b (e ▸ hab)⟩
theorem ownE_some {e : Ed} {key n : Int} (h : ownE e n = some key) : (key, n) ∈ e.ents := by
  unfold ownE at h
  cases hf : e.ents.find? (fun x => x.2 == n) with
  | none => rw [hf] at h; cases h
  | some y =>
    rw [hf] at h
    have h1 := List.mem_of_find?_eq_some hf
    have h2 : y.2 = n := by simpa using List.find?_some hf
    have h3 : y.1 = key := by simpa using h
    rw [← h2, ← h3]; exact h1
theorem ownE_none {e : Ed} {n : Int} : ownE e n = none ↔ n ∉ numsE e := by
  unfold ownE numsE; simp
  exact ⟨fun h x hx => h x n hx rfl, fun h a b hab e => h a (e ▸ hab)⟩
theorem map_inj {α β : Type} {f : α → β} {l : List α} (hn : (l.map f).Nodup) {a b : α} (ha : a ∈ l) (hb : b ∈ l) (h : f a = f b) : a = b := by
  induction l with
  | nil => cases ha
  | cons x l ih =>
    rw [List.map_cons, List.nodup_cons] at hn
    rcases List.mem_cons.1 ha with ea | ha
    · rcases List.mem_cons.1 hb with eb | hb
      · rw [ea, eb]
      · have := List.mem_map_of_mem (f := f) hb
        rw [← h, ea] at this
        exact absurd this hn.1
    · rcases List.mem_cons.1 hb with eb | hb
      · have := List.mem_map_of_mem (f := f) ha
        rw [h, eb] at this
        exact absurd this hn.1
      · exact ih hn.2 ha hb
theorem ent_key {e : Ed} (h : (keysE e).Nodup) {x y : Int × Int} (hx : x ∈ e.ents) (hy : y ∈ e.ents) (he : x.1 = y.1) : x = y := map_inj h hx hy he
theorem ent_num {e : Ed} (h : (numsE e).Nodup) {x y : Int × Int} (hx : x ∈ e.ents) (hy : y ∈ e.ents) (he : x.2 = y.2) : x = y := map_inj h hx hy he
theorem findE_mem {e : Ed} (h : (keysE e).Nodup) {x : Int × Int} (hx : x ∈ e.ents) : findE e x.1 = some x.2 := by
  cases hf : findE e x.1 with
  | none => exact absurd (List.mem_map_of_mem (f := Prod.fst) hx) (findE_none.1 hf)
  | some n =>
    have h1 := ent_key h (findE_some hf) hx rfl
    rw [← h1]
theorem ownE_mem {e : Ed} (h : (numsE e).Nodup) {x : Int × Int} (hx : x ∈ e.ents) : ownE e x.2 = some x.1 := by
  cases hf : ownE e x.2 with
  | none => exact absurd (List.mem_map_of_mem (f := Prod.snd) hx) (ownE_none.1 hf)
  | some n =>
    have h1 := ent_num h (ownE_some hf) hx rfl
    rw [← h1]

/-! ### Valid, as the reference asks. -/
def validR (e : Ed) : Prop := (keysE e).Pairwise (· < ·) ∧ e.ents.length ≤ 64 ∧ e.ret.length ≤ 64 ∧ (e.ret.Pairwise (· < ·) ∧ ∀ x ∈ e.ret, 1 ≤ x ∧ x ≤ 999) ∧
  ∀ x ∈ e.ents, (1 ≤ x.1 ∧ x.1 ≤ 9999) ∧ (1 ≤ x.2 ∧ x.2 ≤ 999) ∧ x.2 ∉ e.ret ∧ ownE e x.2 = some x.1
theorem validE_keys {e : Ed} (h : validE e) : (keysE e).Nodup := asc_nodup h.1.1
theorem validE_nums {e : Ed} (h : validE e) : (numsE e).Nodup := (okList_sort.1 h.2.1).1
theorem valid_iff (e : Ed) : validE e ↔ validR e := by
  constructor
  · intro h
    have hk := validE_keys h
    have hn := validE_nums h
    obtain ⟨⟨k1, k2, k3⟩, h2, ⟨r1, r2, r3⟩, h4⟩ := h
    obtain ⟨n1, n2, n3⟩ := okList_sort.1 h2
    refine ⟨k1, by simpa [keysE] using k3, r3, ⟨r1, r2⟩, fun x hx => ⟨k2 _ (List.mem_map_of_mem (f := Prod.fst) hx), n2 _ (List.mem_map_of_mem (f := Prod.snd) hx), fun hr => h4 _ hr (List.mem_map_of_mem (f := Prod.snd) hx), ownE_mem hn hx⟩⟩
  · rintro ⟨k1, k3, r3, ⟨r1, r2⟩, h5⟩
    have hk := asc_nodup k1
    refine ⟨⟨k1, fun k hk' => ?_, by simpa [keysE] using k3⟩, okList_sort.2 ⟨?_, fun n hn => ?_, by simpa [numsE] using k3⟩, ⟨r1, r2, r3⟩, fun r hr hn => ?_⟩
    · obtain ⟨x, hx, rfl⟩ := List.mem_map.1 hk'; exact (h5 x hx).1
    · -- the numbers are distinct: each leads to its own key
      have hents : e.ents.Nodup := by
        unfold keysE at hk
        rw [List.Nodup, List.pairwise_map] at hk
        exact hk.imp (fun h e => h (by rw [e]))
      unfold numsE
      rw [List.Nodup, List.pairwise_map]
      refine List.Pairwise.imp_of_mem (R := fun a b => a ≠ b) (fun {a b} ha hb hab he => ?_) hents
      have h1 := (h5 a ha).2.2.2
      have h2 := (h5 b hb).2.2.2
      rw [he, h2] at h1
      exact hab (ent_key hk ha hb (Option.some.inj h1).symm)
    · obtain ⟨x, hx, rfl⟩ := List.mem_map.1 hn; exact (h5 x hx).2.1
    · obtain ⟨x, hx, rfl⟩ := List.mem_map.1 hn; exact (h5 x hx).2.2.1 hr

/-! ### The greatest number, what is retired next. -/
def topE (e : Ed) : Int := (numsE e ++ e.ret).foldl max 0
theorem foldl_max_ge : ∀ (l : List Int) (a : Int), a ≤ l.foldl max a ∧ ∀ x ∈ l, x ≤ l.foldl max a
  | [], a => ⟨Int.le_refl _, fun x hx => by cases hx⟩
  | y :: l, a => by
    obtain ⟨h1, h2⟩ := foldl_max_ge l (max a y)
    rw [List.foldl_cons]
    refine ⟨by omega, fun x hx => ?_⟩
    rcases List.mem_cons.1 hx with rfl | hx
    · omega
    · exact h2 x hx
theorem topE_ge {e : Ed} {x : Int} (h : x ∈ numsE e ++ e.ret) : x ≤ topE e := (foldl_max_ge _ 0).2 x h
theorem topE_pos (e : Ed) : 0 ≤ topE e := (foldl_max_ge _ 0).1
/-- The numbers that the next edition retires: the program's list. -/
def retE (e : Ed) (l : List Int) : List Int := sortI (e.ret ++ (e.ents.filter (fun x => !l.contains x.1)).map Prod.snd)
/-- .. and the reference's, number by number from 1. -/
def retR (e : Ed) (l : List Int) : List Int := ((List.range 999).map (fun (k : Nat) => (k : Int) + 1)).filter (fun n => e.ret.contains n || (match ownE e n with | some key => !l.contains key | none => false))
theorem range_asc (n : Nat) : ((List.range n).map (fun (k : Nat) => (k : Int) + 1)).Pairwise (· < ·) := by
  rw [List.pairwise_map]
  exact List.pairwise_lt_range.imp (fun h => by omega)
theorem mem_range1 {n : Nat} {x : Int} : x ∈ (List.range n).map (fun (k : Nat) => (k : Int) + 1) ↔ 1 ≤ x ∧ x ≤ n := by
  rw [List.mem_map]
  constructor
  · rintro ⟨k, hk, rfl⟩; have := List.mem_range.1 hk; omega
  · rintro ⟨h1, h2⟩; exact ⟨(x - 1).toNat, List.mem_range.2 (by omega), by omega⟩
theorem ret_eq {e : Ed} (h : validE e) (l : List Int) : retE e l = retR e l := by
  have hn := validE_nums h
  obtain ⟨_, h2, ⟨r1, r2, _⟩, h4⟩ := h
  obtain ⟨_, n2, _⟩ := okList_sort.1 h2
  refine asc_unique (sortI_lt ?_) ((range_asc 999).sublist List.filter_sublist) fun x => ?_
  · rw [List.nodup_append]
    refine ⟨asc_nodup r1, List.Sublist.nodup (List.filter_sublist.map _) hn, fun a ha b hb e' => ?_⟩
    obtain ⟨y, hy, rfl⟩ := List.mem_map.1 hb
    exact h4 a ha (e' ▸ List.mem_map_of_mem (f := Prod.snd) (List.mem_filter.1 hy).1)
  · unfold retE retR
    rw [sortI_mem, List.mem_append, List.mem_filter, mem_range1, Bool.or_eq_true, List.contains_iff_mem]
    constructor
    · rintro (hr | hd)
      · exact ⟨r2 x hr, .inl hr⟩
      · obtain ⟨y, hy, rfl⟩ := List.mem_map.1 hd
        obtain ⟨hy1, hy2⟩ := List.mem_filter.1 hy
        exact ⟨n2 _ (List.mem_map_of_mem (f := Prod.snd) hy1), .inr (by rw [ownE_mem hn hy1]; exact hy2)⟩
    · rintro ⟨_, hr | ho⟩
      · exact .inl hr
      · right
        cases hf : ownE e x with
        | none => rw [hf] at ho; cases ho
        | some key =>
          rw [hf] at ho
          exact List.mem_map.2 ⟨(key, x), List.mem_filter.2 ⟨ownE_some hf, ho⟩, rfl⟩
end Go.Proofs.YtccmchmemafjdaaGreatDoor
set_option linter.unusedSimpArgs false
set_option linter.unusedVariables false
namespace Go.Proofs.YtccmchmemafjdaaGreatDoor

/-- The entries of the next edition, the greatest number being 'last' so far, and the greatest number behind them. -/
def newEnts (e : Ed) : List Int → Int → List (Int × Int) × Int
  | [], last => ([], last)
  | k :: r, last => match findE e k with
    | some n => ((k, n) :: (newEnts e r last).1, (newEnts e r last).2)
    | none => ((k, last + 1) :: (newEnts e r (last + 1)).1, (newEnts e r (last + 1)).2)
theorem newEnts_keys (e : Ed) : ∀ (l : List Int) (t : Int), (newEnts e l t).1.map Prod.fst = l
  | [], t => rfl
  | k :: r, t => by
    unfold newEnts
    cases findE e k with
    | some n => simp [newEnts_keys e r t]
    | none => simp [newEnts_keys e r (t + 1)]
theorem newEnts_top (e : Ed) : ∀ (l : List Int) (t : Int), t ≤ (newEnts e l t).2
  | [], t => Int.le_refl _
  | k :: r, t => by
    unfold newEnts
    cases findE e k with
    | some n => exact newEnts_top e r t
    | none => have := newEnts_top e r (t + 1); simp only; omega
/-- Each new entry is an old one, or has a number above 't', at most the last; the new numbers are distinct. -/
theorem newEnts_mem (e : Ed) : ∀ (l : List Int) (t : Int) (x : Int × Int), x ∈ (newEnts e l t).1 → (findE e x.1 = some x.2) ∨ (findE e x.1 = none ∧ t < x.2 ∧ x.2 ≤ (newEnts e l t).2)
  | [], t, x, h => by cases h
  | k :: r, t, x, h => by
    unfold newEnts at h ⊢
    cases hf : findE e k with
    | some n =>
      rw [hf] at h
      rcases List.mem_cons.1 h with rfl | h
      · exact .inl hf
      · exact newEnts_mem e r t x h
    | none =>
      rw [hf] at h
      rcases List.mem_cons.1 h with rfl | h
      · exact .inr ⟨hf, by simp only; omega, newEnts_top e r (t + 1)⟩
      · rcases newEnts_mem e r (t + 1) x h with h' | ⟨h1, h2, h3⟩
        · exact .inl h'
        · exact .inr ⟨h1, by omega, h3⟩
theorem newEnts_nodup {e : Ed} (hk : (keysE e).Nodup) (hn : (numsE e).Nodup) : ∀ (l : List Int) (t : Int), l.Nodup → (∀ x ∈ e.ents, x.2 ≤ t) → ((newEnts e l t).1.map Prod.snd).Nodup
  | [], t, _, _ => List.nodup_nil
  | k :: r, t, hl, ht => by
    obtain ⟨hkr, hr⟩ := List.nodup_cons.1 hl
    unfold newEnts
    cases hf : findE e k with
    | some n =>
      rw [List.map_cons, List.nodup_cons]
      refine ⟨fun hm => ?_, newEnts_nodup hk hn r t hr ht⟩
      obtain ⟨x, hx, hx2⟩ := List.mem_map.1 hm
      have hk0 := findE_some hf
      rcases newEnts_mem e r t x hx with h' | ⟨h1, h2, _⟩
      · have := ent_num hn (findE_some h') hk0 hx2
        have hxr : x.1 ∈ r := by rw [← newEnts_keys e r t]; exact List.mem_map_of_mem (f := Prod.fst) hx
        have h3 : x.1 = k := congrArg Prod.fst this
        exact hkr (h3 ▸ hxr)
      · have := ht _ hk0
        rw [hx2] at h2
        simp only at this h2
        omega
    | none =>
      rw [List.map_cons, List.nodup_cons]
      refine ⟨fun hm => ?_, newEnts_nodup hk hn r (t + 1) hr (fun x hx => by have := ht x hx; omega)⟩
      obtain ⟨x, hx, hx2⟩ := List.mem_map.1 hm
      rcases newEnts_mem e r (t + 1) x hx with h' | ⟨h1, h2, _⟩
      · have := ht _ (findE_some h')
        simp only at this hx2
        omega
      · simp only at hx2; omega
/-- The codes: 1 bad arguments, 6 full, 7 out of range (names of the code are checked at the walk). -/
def nextOf (e : Ed) (l : List Int) : Ed := ⟨(newEnts e l (topE e)).1, retE e l⟩
structure NextOk (e : Ed) (l : List Int) : Prop where
  valid : validE e
  keys : okList l 9999
  room : (retE e l).length ≤ 64
  range : (newEnts e l (topE e)).2 ≤ 999
theorem retE_mem {e : Ed} {l : List Int} {n : Int} : n ∈ retE e l ↔ n ∈ e.ret ∨ ∃ x ∈ e.ents, x.1 ∉ l ∧ x.2 = n := by
  unfold retE
  rw [sortI_mem, List.mem_append, List.mem_map]
  constructor
  · rintro (h | ⟨x, hx, rfl⟩)
    · exact .inl h
    · obtain ⟨h1, h2⟩ := List.mem_filter.1 hx
      exact .inr ⟨x, h1, by simpa using h2, rfl⟩
  · rintro (h | ⟨x, h1, h2, rfl⟩)
    · exact .inl h
    · exact .inr ⟨x, List.mem_filter.2 ⟨h1, by simpa using h2⟩, rfl⟩
theorem top_ents {e : Ed} : ∀ x ∈ e.ents, x.2 ≤ topE e := fun x hx => topE_ge (List.mem_append.2 (.inl (List.mem_map_of_mem (f := Prod.snd) hx)))
theorem top_ret {e : Ed} : ∀ r ∈ e.ret, r ≤ topE e := fun r hr => topE_ge (List.mem_append.2 (.inr hr))
theorem next_valid {e : Ed} {l : List Int} (h : NextOk e l) : validE (nextOf e l) := by
  have hk := validE_keys h.valid
  have hn := validE_nums h.valid
  obtain ⟨⟨_, _, _⟩, h2, ⟨r1, r2, r3⟩, h4⟩ := h.valid
  obtain ⟨n1, n2, n3⟩ := okList_sort.1 h2
  obtain ⟨l1, l2, l3⟩ := h.keys
  have hlen : (newEnts e l (topE e)).1.length = l.length := by rw [← List.length_map (f := Prod.fst), newEnts_keys]
  have hretnd : (e.ret ++ (e.ents.filter (fun x => !l.contains x.1)).map Prod.snd).Nodup := by
    rw [List.nodup_append]
    refine ⟨asc_nodup r1, List.Sublist.nodup (List.filter_sublist.map _) hn, fun a ha b hb e' => ?_⟩
    obtain ⟨y, hy, rfl⟩ := List.mem_map.1 hb
    exact h4 a ha (e' ▸ List.mem_map_of_mem (f := Prod.snd) (List.mem_filter.1 hy).1)
  refine ⟨?_, okList_sort.2 ⟨newEnts_nodup hk hn l _ (asc_nodup l1) top_ents, fun n hn' => ?_, ?_⟩, ⟨sortI_lt hretnd, fun r hr => ?_, h.room⟩, fun r hr hrn => ?_⟩
  · show okList ((newEnts e l (topE e)).1.map Prod.fst) 9999
    rw [newEnts_keys]; exact ⟨l1, l2, l3⟩
  · obtain ⟨x, hx, rfl⟩ := List.mem_map.1 hn'
    rcases newEnts_mem e l _ x hx with h' | ⟨_, h5, h6⟩
    · exact n2 _ (List.mem_map_of_mem (f := Prod.snd) (findE_some h'))
    · have := topE_pos e; have := h.range; omega
  · show ((newEnts e l (topE e)).1.map Prod.snd).length ≤ 64
    rw [List.length_map, hlen]; exact l3
  · rcases retE_mem.1 hr with h' | ⟨x, hx, _, rfl⟩
    · exact r2 r h'
    · exact n2 _ (List.mem_map_of_mem (f := Prod.snd) hx)
  · obtain ⟨y, hy, hy2⟩ := List.mem_map.1 hrn
    have hyl : y.1 ∈ l := by rw [← newEnts_keys e l (topE e)]; exact List.mem_map_of_mem (f := Prod.fst) hy
    rcases newEnts_mem e l _ y hy with h' | ⟨_, h5, _⟩
    · rcases retE_mem.1 hr with h6 | ⟨x, hx, hxl, hx2⟩
      · exact h4 r h6 (hy2 ▸ List.mem_map_of_mem (f := Prod.snd) (findE_some h'))
      · have := ent_num hn (findE_some h') hx (hy2.trans hx2.symm)
        exact hxl (this ▸ hyl)
    · rcases retE_mem.1 hr with h6 | ⟨x, hx, hxl, hx2⟩
      · have := top_ret r h6; omega
      · have := top_ents x hx; omega
/-- What follows what. -/
def followsE (e f : Ed) : Prop := validE e ∧ validE f ∧ (∀ x ∈ e.ents, match findE f x.1 with | some n => n = x.2 | none => x.2 ∈ f.ret) ∧ ∀ r ∈ e.ret, r ∈ f.ret
theorem next_follows {e : Ed} {l : List Int} (h : NextOk e l) : followsE e (nextOf e l) := by
  have hk := validE_keys h.valid
  refine ⟨h.valid, next_valid h, fun x hx => ?_, fun r hr => retE_mem.2 (.inl hr)⟩
  cases hf : findE (nextOf e l) x.1 with
  | some n =>
    have h1 := findE_some hf
    rcases newEnts_mem e l _ (x.1, n) h1 with h' | ⟨h', _⟩
    · rw [findE_mem hk hx] at h'; exact (Option.some.inj h').symm
    · rw [findE_mem hk hx] at h'; cases h'
  | none =>
    have h1 := findE_none.1 hf
    have h2 : keysE (nextOf e l) = l := newEnts_keys e l _
    rw [h2] at h1
    exact retE_mem.2 (.inr ⟨x, hx, h1, rfl⟩)
/-- A number that once had a key has it still, or is retired. -/
def keepsE (x : Int × Int) (g : Ed) : Prop := x ∈ g.ents ∨ x.2 ∈ g.ret
theorem keeps_step {x : Int × Int} {f g : Ed} (h : keepsE x f) (hf : followsE f g) : keepsE x g := by
  obtain ⟨_, _, h3, h4⟩ := hf
  rcases h with h | h
  · have h5 := h3 x h
    cases hg : findE g x.1 with
    | some n => rw [hg] at h5; left; have := findE_some hg; rw [h5] at this; exact this
    | none => rw [hg] at h5; exact .inr h5
  · exact .inr (h4 _ h)
theorem keeps_own {x : Int × Int} {g : Ed} (h : keepsE x g) (hv : validE g) {key : Int} (ho : ownE g x.2 = some key) : key = x.1 := by
  have h1 := ownE_some ho
  rcases h with h | h
  · exact congrArg Prod.fst (ent_num (validE_nums hv) h1 h rfl)
  · exact absurd (List.mem_map_of_mem (f := Prod.snd) h1) (hv.2.2.2 _ h)
end Go.Proofs.YtccmchmemafjdaaGreatDoor
set_option linter.unusedSimpArgs false
set_option linter.unusedVariables false
namespace Go.Proofs.YtccmchmemafjdaaGreatDoor

theorem newEnts_same {e : Ed} (hk : (keysE e).Nodup) : ∀ (l : List (Int × Int)) (t : Int), (∀ x ∈ l, x ∈ e.ents) → newEnts e (l.map Prod.fst) t = (l, t)
  | [], t, _ => rfl
  | x :: l, t, h => by
    have h1 := findE_mem hk (h x (by simp))
    have h2 := newEnts_same hk l t (fun y hy => h y (by simp [hy]))
    rw [List.map_cons]
    unfold newEnts
    rw [h1, h2]
theorem next_same {e : Ed} (h : validE e) : NextOk e (keysE e) ∧ nextOf e (keysE e) = e := by
  have hk := validE_keys h
  have h1 : newEnts e (keysE e) (topE e) = (e.ents, topE e) := newEnts_same hk e.ents _ (fun x hx => hx)
  have hr : retE e (keysE e) = e.ret := by
    refine asc_unique ?_ h.2.2.1.1 fun x => ?_
    · have := h.2.2.1.1
      have hf : e.ents.filter (fun x => !(keysE e).contains x.1) = [] := by
        rw [List.filter_eq_nil_iff]
        intro x hx
        simp [keysE]
        exact ⟨x.2, hx⟩
      unfold retE
      rw [hf, List.map_nil, List.append_nil]
      exact sortI_lt (asc_nodup this)
    · rw [retE_mem]
      constructor
      · rintro (h' | ⟨y, hy, hyl, _⟩)
        · exact h'
        · exact absurd (List.mem_map_of_mem (f := Prod.fst) hy) hyl
      · exact .inl
  have ht : topE e ≤ 999 := by
    obtain ⟨_, h2, ⟨_, r2, _⟩, _⟩ := h
    obtain ⟨_, n2, _⟩ := okList_sort.1 h2
    unfold topE
    suffices hs : ∀ (l : List Int) (a : Int), a ≤ 999 → (∀ x ∈ l, x ≤ 999) → l.foldl max a ≤ 999 from hs _ 0 (by omega) (fun x hx => by
      rcases List.mem_append.1 hx with hx | hx
      · exact (n2 x hx).2
      · exact (r2 x hx).2)
    intro l
    induction l with
    | nil => intro a ha _; exact ha
    | cons y l ih => intro a ha hl; rw [List.foldl_cons]; exact ih _ (by have := hl y (by simp); omega) (fun x hx => hl x (by simp [hx]))
  refine ⟨⟨h, h.1, by rw [hr]; exact h.2.2.1.2.2, by rw [h1]; exact ht⟩, ?_⟩
  unfold nextOf
  rw [h1, hr]
theorem top_le {e : Ed} (h : validE e) : topE e ≤ 999 := by
  have := (next_same h).1.range
  have h1 : newEnts e (keysE e) (topE e) = (e.ents, topE e) := newEnts_same (validE_keys h) e.ents _ (fun x hx => hx)
  rw [h1] at this
  exact this
/-- The reference asks of each number as it comes whether it is too great. -/
theorem range_iff {e : Ed} (he : ∀ x ∈ e.ents, x.2 ≤ 999) : ∀ (l : List Int) (t : Int), t ≤ 999 → ((∃ x ∈ (newEnts e l t).1, 999 < x.2) ↔ 999 < (newEnts e l t).2)
  | [], t, ht => by simp [newEnts]; omega
  | k :: r, t, ht => by
    unfold newEnts
    cases hf : findE e k with
    | some n =>
      have hn := he _ (findE_some hf)
      have ih := range_iff he r t ht
      simp only
      rw [← ih]
      constructor
      · rintro ⟨x, hx, h⟩
        rcases List.mem_cons.1 hx with rfl | hx
        · simp only at h hn; omega
        · exact ⟨x, hx, h⟩
      · rintro ⟨x, hx, h⟩; exact ⟨x, by simp [hx], h⟩
    | none =>
      simp only
      have hge := newEnts_top e r (t + 1)
      by_cases ht1 : t + 1 ≤ 999
      · have ih := range_iff he r (t + 1) ht1
        rw [← ih]
        constructor
        · rintro ⟨x, hx, h⟩
          rcases List.mem_cons.1 hx with rfl | hx
          · simp only at h; omega
          · exact ⟨x, hx, h⟩
        · rintro ⟨x, hx, h⟩; exact ⟨x, by simp [hx], h⟩
      · exact ⟨fun _ => by omega, fun _ => ⟨(k, t + 1), by simp, by simp only; omega⟩⟩
/-- Of a key that was there the number is the old one; of another one it is above all that were used. -/
theorem next_number {e : Ed} {l : List Int} (h : NextOk e l) {x : Int × Int} (hx : x ∈ (nextOf e l).ents) : (∀ n, findE e x.1 = some n → x.2 = n) ∧ (findE e x.1 = none → topE e < x.2) := by
  rcases newEnts_mem e l _ x hx with h' | ⟨h1, h2, _⟩
  · exact ⟨fun n hn => Option.some.inj (h'.symm.trans hn), fun hn => by rw [hn] at h'; cases h'⟩
  · exact ⟨fun n hn => by rw [hn] at h1; (cases h1), fun _ => h2⟩

/-! ### The text. -/
def byNum (e : Ed) : List (Int × Int) := e.ents.mergeSort (fun a b => decide (a.2 ≤ b.2))
def lineE (x : Int × Int) : List UInt8 := Lib.itoa x.2 ++ (32 :: 61 :: 32 :: (Lib.itoa x.1 ++ [10]))
def retT (l : List Int) : List UInt8 := if l = [] then [] else [114, 101, 116, 105, 114, 101, 100] ++ (l.flatMap (fun n => 32 :: Lib.itoa n) ++ [10])
def textE (e : Ed) : List UInt8 := if validE e then (byNum e).flatMap lineE ++ retT e.ret else []
theorem byNum_mem (e : Ed) (x : Int × Int) : x ∈ byNum e ↔ x ∈ e.ents := (List.mergeSort_perm e.ents _).mem_iff
theorem byNum_lt {e : Ed} (h : (numsE e).Nodup) : (byNum e).Pairwise (fun a b => a.2 < b.2) := by
  have h1 := List.pairwise_mergeSort (le := fun a b : Int × Int => decide (a.2 ≤ b.2)) (fun a b c h1 h2 => by simp only [decide_eq_true_eq] at *; omega) (fun a b => by simp only [Bool.or_eq_true, decide_eq_true_eq]; omega) e.ents
  have h2 : ((byNum e).map Prod.snd).Nodup := ((List.mergeSort_perm e.ents _).map Prod.snd).nodup_iff.2 h
  rw [List.Nodup, List.pairwise_map] at h2
  exact (h1.and h2).imp (fun h => by have h3 := h.1; have := h.2; simp only [decide_eq_true_eq] at h3; omega)
/-- The reference goes through the numbers from 1. -/
theorem byNum_eq {e : Ed} (h : validE e) : byNum e = ((List.range 999).map (fun (k : Nat) => (k : Int) + 1)).filterMap (fun n => (ownE e n).map (fun key => (key, n))) := by
  have hn := validE_nums h
  obtain ⟨_, n2, _⟩ := okList_sort.1 h.2.1
  have hr : (((List.range 999).map (fun (k : Nat) => (k : Int) + 1)).filterMap (fun n => (ownE e n).map (fun key => (key, n)))).Pairwise (fun a b => a.2 < b.2) := by
    rw [List.pairwise_filterMap]
    refine (range_asc 999).imp (fun {a b} hab x hx y hy => ?_)
    obtain ⟨k1, _, rfl⟩ := Option.map_eq_some_iff.1 hx
    obtain ⟨k2, _, rfl⟩ := Option.map_eq_some_iff.1 hy
    exact hab
  refine List.Perm.eq_of_pairwise (le := fun a b : Int × Int => a.2 ≤ b.2) (fun a b ha hb h3 h4 => ent_num hn ((byNum_mem e a).1 ha) (?_) (by omega)) ((byNum_lt hn).imp (fun h => by omega)) (hr.imp (fun h => by omega)) ((List.perm_ext_iff_of_nodup ((byNum_lt hn).imp (fun h e' => by rw [e'] at h; omega)) (hr.imp (fun h e' => by rw [e'] at h; omega))).2 fun x => ?_)
  · obtain ⟨n, _, hx⟩ := List.mem_filterMap.1 hb
    obtain ⟨key, hk, rfl⟩ := Option.map_eq_some_iff.1 hx
    exact ownE_some hk
  · rw [byNum_mem, List.mem_filterMap]
    constructor
    · intro hx
      exact ⟨x.2, mem_range1.2 (n2 _ (List.mem_map_of_mem (f := Prod.snd) hx)), by rw [ownE_mem hn hx]; rfl⟩
    · rintro ⟨n, _, hx⟩
      obtain ⟨key, hk, rfl⟩ := Option.map_eq_some_iff.1 hx
      exact ownE_some hk
end Go.Proofs.YtccmchmemafjdaaGreatDoor
set_option linter.unusedSimpArgs false
set_option linter.unusedVariables false
namespace Go.Proofs.YtccmchmemafjdaaGreatDoor

theorem index_eq3 : ∀ (d r : List UInt8), (32 : UInt8) ∉ d → Lib.index (d ++ 32 :: 61 :: 32 :: r) [32, 61, 32] = d.length
  | [], r, _ => by simp [Lib.index, List.isPrefixOf]
  | x :: d, r, h => by
    have hc : ((32 : UInt8) == x) = false := by rw [beq_eq_false_iff_ne]; intro e; exact h (by rw [e]; exact List.mem_cons_self ..)
    have ih := index_eq3 d r (fun h' => h (List.mem_cons_of_mem _ h'))
    have hne : ((d.length : Int) == -1) = false := by rw [beq_eq_false_iff_ne]; omega
    simp [Lib.index, List.isPrefixOf, hc, ih, hne]
theorem cut_eq3 (d r : List UInt8) (h : (32 : UInt8) ∉ d) : Lib.cut (d ++ 32 :: 61 :: 32 :: r) [32, 61, 32] = (d, r, true) := by
  unfold Lib.cut; rw [index_eq3 d r h, if_pos (by omega)]
  simp
/-- The lines of a text, without their ends; nothing behind the last end is no line. -/
def lnsL (s : List UInt8) : List (List UInt8) := if (wordsL 10 s).getLast? = some [] then (wordsL 10 s).dropLast else wordsL 10 s
theorem words_lines : ∀ ls : List (List UInt8), (∀ l ∈ ls, (10 : UInt8) ∉ l) → wordsL 10 (ls.flatMap (fun l => l ++ [10])) = ls ++ [[]]
  | [], _ => rfl
  | l :: ls, h => by
    rw [List.flatMap_cons, List.append_assoc, List.singleton_append, wordsL_cut 10 _ _ (h l (by simp)), words_lines ls (fun x hx => h x (by simp [hx]))]
    rfl
theorem lns_lines {ls : List (List UInt8)} (h : ∀ l ∈ ls, (10 : UInt8) ∉ l) : lnsL (ls.flatMap (fun l => l ++ [10])) = ls := by
  unfold lnsL; rw [words_lines ls h, if_pos (by simp), List.dropLast_concat]
def retP : List UInt8 := [114, 101, 116, 105, 114, 101, 100, 32]
def stepP (e : Ed) (l : List UInt8) : Ed :=
  if retP.isPrefixOf l then ⟨e.ents, e.ret ++ (wordsL 32 (l.drop 8)).map numL⟩
  else ⟨e.ents ++ [(numL (Lib.cut l [32, 61, 32]).2.1, numL (Lib.cut l [32, 61, 32]).1)], e.ret⟩
def collP (s : List UInt8) : Ed := (lnsL s).foldl stepP edZero
def lineT (x : Int × Int) : List UInt8 := Lib.itoa x.2 ++ 32 :: 61 :: 32 :: Lib.itoa x.1
def retLine (l : List Int) : List UInt8 := [114, 101, 116, 105, 114, 101, 100] ++ l.flatMap (fun n => 32 :: Lib.itoa n)
def linesE (e : Ed) : List (List UInt8) := (byNum e).map lineT ++ (if e.ret = [] then [] else [retLine e.ret])
theorem textE_lines {e : Ed} (h : validE e) : textE e = (linesE e).flatMap (fun l => l ++ [10]) := by
  unfold textE linesE
  rw [if_pos h, List.flatMap_append]
  congr 1
  · rw [List.flatMap_map]
    congr 1
    funext x
    simp [lineE, lineT]
  · unfold retT
    by_cases hr : e.ret = []
    · rw [if_pos hr, if_pos hr]; rfl
    · rw [if_neg hr, if_neg hr]; simp [retLine]
theorem not_dig32 : ¬ isDig 32 := by unfold isDig; decide
theorem not_dig10 : ¬ isDig 10 := by unfold isDig; decide
theorem itoa_no32 {n : Int} (h : 0 ≤ n) : (32 : UInt8) ∉ Lib.itoa n := no_dig (itoa_dig n h) not_dig32
theorem itoa_no10 {n : Int} (h : 0 ≤ n) : (10 : UInt8) ∉ Lib.itoa n := no_dig (itoa_dig n h) not_dig10
theorem itoa_cons {n : Int} (h : 0 ≤ n) : ∃ c r, Lib.itoa n = c :: r ∧ isDig c := by
  cases hi : Lib.itoa n with
  | nil => exact absurd (hi ▸ itoa_nat n h) (fun e => dec_ne _ e.symm)
  | cons c r => exact ⟨c, r, rfl, itoa_dig n h c (by rw [hi]; simp)⟩
theorem stepP_line {e : Ed} {x : Int × Int} (h1 : 1 ≤ x.1 ∧ x.1 ≤ 9999) (h2 : 1 ≤ x.2 ∧ x.2 ≤ 999) : stepP e (lineT x) = ⟨e.ents ++ [x], e.ret⟩ := by
  obtain ⟨c, r, hc, hd⟩ := itoa_cons (n := x.2) (by omega)
  have hp : retP.isPrefixOf (lineT x) = false := by
    unfold lineT; rw [hc]
    have : ((114 : UInt8) == c) = false := by
      rw [beq_eq_false_iff_ne]; intro e'; rw [← e'] at hd; revert hd; unfold isDig; decide
    simp [retP, List.isPrefixOf, this]
  unfold stepP
  rw [hp, if_neg (by decide)]
  unfold lineT
  rw [cut_eq3 _ _ (itoa_no32 (by omega))]
  simp only
  rw [numL_itoa _ (by omega) (by omega), numL_itoa _ (by omega) (by omega)]
theorem words_nums : ∀ (a : Int) (l : List Int), (∀ n ∈ a :: l, 1 ≤ n ∧ n ≤ 999) → wordsL 32 (Lib.itoa a ++ l.flatMap (fun n => 32 :: Lib.itoa n)) = (a :: l).map Lib.itoa
  | a, [], h => by
    have := h a (by simp)
    rw [List.flatMap_nil, List.append_nil, wordsL_none 32 _ (itoa_no32 (by omega))]; rfl
  | a, b :: l, h => by
    have := h a (by simp)
    rw [List.flatMap_cons, List.cons_append, wordsL_cut 32 _ _ (itoa_no32 (by omega)), words_nums b l (fun n hn => h n (by simp only [List.mem_cons] at hn ⊢; exact .inr hn))]
    rfl
theorem stepP_ret {e : Ed} {l : List Int} (hl : l ≠ []) (h : ∀ n ∈ l, 1 ≤ n ∧ n ≤ 999) : stepP e (retLine l) = ⟨e.ents, e.ret ++ l⟩ := by
  cases l with
  | nil => exact absurd rfl hl
  | cons a l =>
    have hp : retP.isPrefixOf (retLine (a :: l)) = true := by simp [retP, retLine, List.isPrefixOf]
    have hd : (retLine (a :: l)).drop 8 = Lib.itoa a ++ l.flatMap (fun n => 32 :: Lib.itoa n) := by simp [retLine]
    unfold stepP
    rw [if_pos hp, hd, words_nums a l h, List.map_map]
    congr 1
    congr 1
    conv => rhs; rw [← List.map_id (a :: l)]
    refine List.map_congr_left (fun n hn => ?_)
    have := h n hn
    simp [numL_itoa n (by omega) (by omega)]
theorem foldP_lines {l : List (Int × Int)} : ∀ (e : Ed), (∀ x ∈ l, (1 ≤ x.1 ∧ x.1 ≤ 9999) ∧ (1 ≤ x.2 ∧ x.2 ≤ 999)) → (l.map lineT).foldl stepP e = ⟨e.ents ++ l, e.ret⟩ := by
  induction l with
  | nil => intro e _; simp
  | cons x l ih =>
    intro e h
    obtain ⟨h1, h2⟩ := h x (by simp)
    rw [List.map_cons, List.foldl_cons, stepP_line h1 h2, ih _ (fun y hy => h y (by simp [hy]))]
    simp
theorem ent_bounds {e : Ed} (h : validE e) : ∀ x ∈ e.ents, (1 ≤ x.1 ∧ x.1 ≤ 9999) ∧ (1 ≤ x.2 ∧ x.2 ≤ 999) := fun x hx =>
  ⟨h.1.2.1 _ (List.mem_map_of_mem (f := Prod.fst) hx), (okList_sort.1 h.2.1).2.1 _ (List.mem_map_of_mem (f := Prod.snd) hx)⟩
/-- WHAT THE PROGRAM COLLECTS FROM A TEXT: the entries by their numbers, and the retired ones. -/
theorem collP_text {e : Ed} (h : validE e) : collP (textE e) = ⟨byNum e, e.ret⟩ := by
  have hb := ent_bounds h
  have hno : ∀ l ∈ linesE e, (10 : UInt8) ∉ l := by
    intro l hl hm
    unfold linesE at hl
    rcases List.mem_append.1 hl with hl | hl
    · obtain ⟨x, hx, rfl⟩ := List.mem_map.1 hl
      obtain ⟨h1, h2⟩ := hb x ((byNum_mem e x).1 hx)
      unfold lineT at hm
      simp only [List.mem_append, List.mem_cons] at hm
      rcases hm with hm | hm | hm | hm | hm
      · exact itoa_no10 (by omega) hm
      · exact absurd hm (by decide)
      · exact absurd hm (by decide)
      · exact absurd hm (by decide)
      · exact itoa_no10 (by omega) hm
    · split at hl
      · cases hl
      · rw [List.mem_singleton] at hl
        subst hl
        unfold retLine at hm
        rcases List.mem_append.1 hm with hm | hm
        · revert hm; decide
        · obtain ⟨n, hn, hm⟩ := List.mem_flatMap.1 hm
          have := h.2.2.1.2.1 n hn
          rcases List.mem_cons.1 hm with hm | hm
          · exact absurd hm (by decide)
          · exact itoa_no10 (by omega) hm
  unfold collP
  rw [textE_lines h, lns_lines hno]
  unfold linesE
  rw [List.foldl_append, foldP_lines _ (fun x hx => hb x ((byNum_mem e x).1 hx))]
  by_cases hr : e.ret = []
  · rw [if_pos hr, hr]; simp [edZero]
  · rw [if_neg hr, List.foldl_cons, List.foldl_nil, stepP_ret hr (fun n hn => h.2.2.1.2.1 n hn)]
    simp [edZero]
/-- Sorted by key, whatever the way: the edition. -/
theorem byKey_of {e : Ed} (h : validE e) {ys : List (Int × Int)} (hp : ys.Perm (byNum e)) (hs : ys.Pairwise (fun a b => a.1 ≤ b.1)) : ys = e.ents := by
  have hk := h.1.1
  have hents : e.ents.Pairwise (fun a b => a.1 ≤ b.1) := by
    unfold keysE at hk
    rw [List.pairwise_map] at hk
    exact hk.imp (fun h => by omega)
  have hp2 : ys.Perm e.ents := hp.trans (List.mergeSort_perm e.ents _)
  exact List.Perm.eq_of_pairwise (le := fun a b : Int × Int => a.1 ≤ b.1) (fun a b ha hb h3 h4 => ent_key (validE_keys h) (hp2.subset ha) hb (by omega)) hs hents hp2
theorem textE_inj {e f : Ed} (he : validE e) (hf : validE f) (h : textE e = textE f) : e = f := by
  have h1 := collP_text he
  rw [h, collP_text hf] at h1
  have hs : ∀ g : Ed, validE g → g.ents.Pairwise (fun a b => a.1 ≤ b.1) := fun g hg => by
    have hk := hg.1.1
    unfold keysE at hk
    rw [List.pairwise_map] at hk
    exact hk.imp (fun h => by omega)
  obtain ⟨h2, h3⟩ := Ed.mk.inj h1
  have h4 : e.ents = f.ents := byKey_of hf (h2 ▸ (List.mergeSort_perm e.ents _).symm) (hs e he)
  cases e; cases f
  simp only at h3 h4
  rw [h3, h4]
end Go.Proofs.YtccmchmemafjdaaGreatDoor
set_option linter.unusedSimpArgs false
set_option linter.unusedVariables false
namespace Go.Proofs.YtccmchmemafjdaaGreatDoor

def isDigB (c : UInt8) : Bool := decide (48 ≤ c.toNat ∧ c.toNat ≤ 57)
theorem isDigB_iff (c : UInt8) : isDigB c = true ↔ isDig c := by unfold isDigB isDig; simp
def addDig (n : Int) (c : UInt8) : Int := min (10 * n + ((c.toNat : Int) - 48)) 100000
/-- The numbers of a line so far, a byte more; 'pd': the byte before was a digit. -/
def numStep (pd : Bool) (acc : List Int) (c : UInt8) : List Int :=
  if isDigB c then (if pd then acc.dropLast ++ [addDig (acc.getLastD 0) c] else acc ++ [addDig 0 c]) else acc
def numsF : Bool → List Int → List UInt8 → List Int
  | _, acc, [] => acc
  | pd, acc, c :: r => numsF (isDigB c) (numStep pd acc c) r
theorem numsF_append : ∀ (l r : List UInt8) (pd : Bool) (acc : List Int), numsF pd acc (l ++ r) = numsF ((l.getLast?.map isDigB).getD pd) (numsF pd acc l) r
  | [], r, pd, acc => rfl
  | c :: l, r, pd, acc => by
    rw [List.cons_append]
    show numsF (isDigB c) (numStep pd acc c) (l ++ r) = _
    rw [numsF_append l r]
    cases l with
    | nil => rfl
    | cons d l =>
      rw [List.getLast?_cons_cons]
      cases hg : (d :: l).getLast? with
      | none => simp at hg
      | some z => rfl
/-- What the digits of one number make. -/
def digsV : Int → List UInt8 → Int
  | n, [] => n
  | n, c :: r => digsV (addDig n c) r
theorem numsF_digits : ∀ (l : List UInt8) (acc : List Int) (n : Int), (∀ c ∈ l, isDig c) → numsF true (acc ++ [n]) l = acc ++ [digsV n l]
  | [], acc, n, _ => rfl
  | c :: l, acc, n, h => by
    have hc : isDigB c = true := (isDigB_iff c).2 (h c (by simp))
    show numsF (isDigB c) (numStep true (acc ++ [n]) c) l = _
    unfold numStep
    rw [hc, if_pos rfl, if_pos rfl, List.dropLast_concat, List.getLastD_concat, numsF_digits l acc _ (fun d hd => h d (by simp [hd]))]
    rfl
theorem numsF_number {l : List UInt8} (hl : l ≠ []) (h : ∀ c ∈ l, isDig c) (acc : List Int) : numsF false acc l = acc ++ [digsV 0 l] := by
  cases l with
  | nil => exact absurd rfl hl
  | cons c l =>
    have hc : isDigB c = true := (isDigB_iff c).2 (h c (by simp))
    show numsF (isDigB c) (numStep false acc c) l = _
    unfold numStep
    rw [hc, if_pos rfl, if_neg (by decide), numsF_digits l acc _ (fun d hd => h d (by simp [hd]))]
    rfl
theorem digitVal_of {c : UInt8} (h : isDig c) : Lib.digitVal c = some (c.toNat - 48) := by
  unfold isDig at h
  unfold Lib.digitVal
  first | (rw [if_pos (by simpa using h)]) | (simp; omega) | (split <;> simp_all <;> omega)
theorem decFrom_ge' : ∀ (l : List UInt8) (a n : Nat), Lib.decFrom a l = some n → a ≤ n
  | [], a, n, h => by simp [Lib.decFrom] at h; omega
  | c :: l, a, n, h => by
    unfold Lib.decFrom at h
    cases hv : Lib.digitVal c with
    | none => rw [hv] at h; cases h
    | some d => rw [hv] at h; have := decFrom_ge' l _ _ h; omega
theorem digsV_from : ∀ (l : List UInt8) (n u : Nat), (∀ c ∈ l, isDig c) → Lib.decFrom n l = some u → u ≤ 100000 → digsV (n : Int) l = (u : Int)
  | [], n, u, _, hd, _ => by simp [Lib.decFrom] at hd; rw [hd]; rfl
  | c :: l, n, u, h, hd, hu => by
    have hc : 48 ≤ c.toNat ∧ c.toNat ≤ 57 := h c (by simp)
    have h' : Lib.decFrom (10 * n + (c.toNat - 48)) l = some u := by
      rw [Lib.decFrom, digitVal_of (h c (by simp)), Nat.mul_comm] at hd
      exact hd
    have hge := decFrom_ge' l _ _ h'
    show digsV (addDig (n : Int) c) l = _
    have ha : addDig (n : Int) c = ((10 * n + (c.toNat - 48) : Nat) : Int) := by unfold addDig; omega
    rw [ha]
    exact digsV_from l _ u (fun d hd' => h d (by simp [hd'])) h' hu
end Go.Proofs.YtccmchmemafjdaaGreatDoor
set_option linter.unusedSimpArgs false
set_option linter.unusedVariables false
namespace Go.Proofs.YtccmchmemafjdaaGreatDoor

theorem numsF_skip {c : UInt8} (h : ¬ isDig c) (pd : Bool) (acc : List Int) (r : List UInt8) : numsF pd acc (c :: r) = numsF false acc r := by
  have hc : isDigB c = false := by
    cases hb : isDigB c with
    | false => rfl
    | true => exact absurd ((isDigB_iff c).1 hb) h
  show numsF (isDigB c) (numStep pd acc c) r = _
  unfold numStep
  rw [hc, if_neg (by decide)]
theorem digsV_itoa {n : Int} (h : 0 ≤ n) (h2 : n ≤ 99999) : digsV 0 (Lib.itoa n) = n := by
  have h1 := digsV_from (Lib.itoa n) 0 n.toNat (itoa_dig n h) (by rw [itoa_nat n h]; exact decFrom_dec _) (by omega)
  rw [show ((0 : Nat) : Int) = 0 from rfl] at h1
  rw [h1]; omega
theorem itoa_ne2 {n : Int} (h : 0 ≤ n) : Lib.itoa n ≠ [] := by rw [itoa_nat n h]; exact dec_ne _
theorem numsF_itoa {n : Int} (h : 0 ≤ n) (h2 : n ≤ 99999) (acc : List Int) : numsF false acc (Lib.itoa n) = acc ++ [n] := by
  rw [numsF_number (itoa_ne2 h) (itoa_dig n h), digsV_itoa h h2]
theorem numsF_itoa_then {n : Int} (h : 0 ≤ n) (h2 : n ≤ 99999) (acc : List Int) {c : UInt8} (hc : ¬ isDig c) (r : List UInt8) : numsF false acc (Lib.itoa n ++ c :: r) = numsF false (acc ++ [n]) r := by
  rw [numsF_append, numsF_itoa h h2, numsF_skip hc]
theorem not_dig61 : ¬ isDig 61 := by unfold isDig; decide
theorem nums_line {x : Int × Int} (h1 : 1 ≤ x.1 ∧ x.1 ≤ 9999) (h2 : 1 ≤ x.2 ∧ x.2 ≤ 999) : numsF false [] (lineT x) = [x.2, x.1] := by
  unfold lineT
  rw [numsF_itoa_then (by omega) (by omega) _ not_dig32, numsF_skip not_dig61, numsF_skip not_dig32, numsF_itoa (by omega) (by omega)]
  rfl
theorem nums_tail : ∀ (l acc : List Int), (∀ n ∈ l, 1 ≤ n ∧ n ≤ 999) → ∀ pd, numsF pd acc (l.flatMap (fun n => 32 :: Lib.itoa n)) = acc ++ l
  | [], acc, _, pd => by simp [numsF]
  | n :: l, acc, h, pd => by
    have hn := h n (by simp)
    rw [List.flatMap_cons, List.cons_append, numsF_skip not_dig32, numsF_append, numsF_itoa (by omega) (by omega), nums_tail l _ (fun m hm => h m (by simp [hm]))]
    simp
theorem nums_ret {l : List Int} (h : ∀ n ∈ l, 1 ≤ n ∧ n ≤ 999) : numsF false [] (retLine l) = l := by
  unfold retLine
  simp only [List.cons_append, List.nil_append]
  iterate 7 rw [numsF_skip (by unfold isDig; decide)]
  rw [nums_tail l [] h]
  rfl
/-- An entry set in before the first of a key that is not less. -/
def insK (x : Int × Int) (l : List (Int × Int)) : List (Int × Int) := l.takeWhile (fun y => decide (y.1 < x.1)) ++ x :: l.dropWhile (fun y => decide (y.1 < x.1))
theorem insK_perm (x : Int × Int) (l : List (Int × Int)) : (insK x l).Perm (x :: l) := by
  unfold insK
  refine List.perm_middle.trans ?_
  rw [List.takeWhile_append_dropWhile]
theorem insK_sorted {x : Int × Int} {l : List (Int × Int)} (h : l.Pairwise (fun a b => a.1 ≤ b.1)) : (insK x l).Pairwise (fun a b => a.1 ≤ b.1) := by
  induction l with
  | nil => exact List.pairwise_singleton ..
  | cons y l ih =>
    obtain ⟨h1, h2⟩ := List.pairwise_cons.1 h
    unfold insK
    by_cases hy : y.1 < x.1
    · rw [List.takeWhile_cons_of_pos (by simpa using hy), List.dropWhile_cons_of_pos (by simpa using hy), List.cons_append, List.pairwise_cons]
      refine ⟨fun b hb => ?_, ih h2⟩
      rcases List.mem_cons.1 ((insK_perm x l).subset hb) with rfl | hb
      · omega
      · exact h1 b hb
    · rw [List.takeWhile_cons_of_neg (by simpa using hy), List.dropWhile_cons_of_neg (by simpa using hy), List.nil_append, List.pairwise_cons]
      refine ⟨fun b hb => ?_, h⟩
      rcases List.mem_cons.1 hb with rfl | hb
      · omega
      · have := h1 b hb; omega
/-- A line read; 'first': it is the first one, whose first byte is not looked at for the sign '='. -/
def stepR (first : Bool) (e : Ed) (l : List UInt8) : Ed :=
  if ((if first then l.drop 1 else l).contains 61 && (numsF false [] l).length == 2) = true then
    ⟨insK ((numsF false [] l).getD 1 0, (numsF false [] l).getD 0 0) e.ents, if l.contains 114 then [] else e.ret⟩
  else ⟨e.ents, numsF false [] l⟩
def foldR : Bool → Ed → List (List UInt8) → Ed
  | _, e, [] => e
  | first, e, l :: r => foldR false (stepR first e l) r
def collR (s : List UInt8) : Ed :=
  if ((wordsL 10 s).getLastD []).contains 114 then ⟨(foldR true edZero (wordsL 10 s).dropLast).ents, []⟩ else foldR true edZero (wordsL 10 s).dropLast
theorem lineT_r {x : Int × Int} (h1 : 0 ≤ x.1) (h2 : 0 ≤ x.2) : (lineT x).contains 114 = false := by
  rw [← Bool.not_eq_true, List.contains_iff_mem]
  unfold lineT
  simp only [List.mem_append, List.mem_cons]
  rintro (h | h | h | h | h)
  · exact absurd (itoa_dig x.2 h2 _ h) (by unfold isDig; decide)
  · exact absurd h (by decide)
  · exact absurd h (by decide)
  · exact absurd h (by decide)
  · exact absurd (itoa_dig x.1 h1 _ h) (by unfold isDig; decide)
theorem lineT_eq {x : Int × Int} (h2 : 0 ≤ x.2) (first : Bool) : (if first then (lineT x).drop 1 else lineT x).contains 61 = true := by
  rw [List.contains_iff_mem]
  obtain ⟨c, r, hc, _⟩ := itoa_cons h2
  unfold lineT
  rw [hc]
  cases first <;> simp
theorem stepR_line {e : Ed} {x : Int × Int} (h1 : 1 ≤ x.1 ∧ x.1 ≤ 9999) (h2 : 1 ≤ x.2 ∧ x.2 ≤ 999) (first : Bool) : stepR first e (lineT x) = ⟨insK x e.ents, e.ret⟩ := by
  unfold stepR
  rw [nums_line h1 h2, lineT_eq (by omega) first, lineT_r (by omega) (by omega)]
  rfl
theorem retLine_eq {l : List Int} (h : ∀ n ∈ l, 1 ≤ n ∧ n ≤ 999) : (61 : UInt8) ∉ retLine l := by
  unfold retLine
  intro hm
  rcases List.mem_append.1 hm with hm | hm
  · revert hm; decide
  · obtain ⟨n, hn, hm⟩ := List.mem_flatMap.1 hm
    have := h n hn
    rcases List.mem_cons.1 hm with hm | hm
    · exact absurd hm (by decide)
    · exact absurd (itoa_dig n (by omega) _ hm) not_dig61
theorem stepR_ret {e : Ed} {l : List Int} (h : ∀ n ∈ l, 1 ≤ n ∧ n ≤ 999) (first : Bool) : stepR first e (retLine l) = ⟨e.ents, l⟩ := by
  have hne : (if first then (retLine l).drop 1 else retLine l).contains 61 = false := by
    rw [← Bool.not_eq_true, List.contains_iff_mem]
    intro hm
    refine retLine_eq h ?_
    cases first
    · exact hm
    · exact List.mem_of_mem_drop hm
  unfold stepR
  rw [hne, nums_ret h]
  rfl
theorem foldR_lines : ∀ (l : List (Int × Int)) (first : Bool) (e : Ed), (∀ x ∈ l, (1 ≤ x.1 ∧ x.1 ≤ 9999) ∧ (1 ≤ x.2 ∧ x.2 ≤ 999)) → ∀ r, ∃ b, foldR first e (l.map lineT ++ r) = foldR b ⟨l.foldl (fun a x => insK x a) e.ents, e.ret⟩ r
  | [], first, e, _, r => ⟨first, rfl⟩
  | x :: l, first, e, h, r => by
    obtain ⟨h1, h2⟩ := h x (by simp)
    obtain ⟨b, hb⟩ := foldR_lines l false (stepR first e (lineT x)) (fun y hy => h y (by simp [hy])) r
    refine ⟨b, ?_⟩
    rw [List.map_cons, List.cons_append]
    show foldR false (stepR first e (lineT x)) (l.map lineT ++ r) = _
    rw [hb, stepR_line h1 h2]
    rfl
theorem ins_all : ∀ (l a : List (Int × Int)), a.Pairwise (fun x y => x.1 ≤ y.1) → (l.foldl (fun a x => insK x a) a).Pairwise (fun x y => x.1 ≤ y.1) ∧ (l.foldl (fun a x => insK x a) a).Perm (l ++ a)
  | [], a, h => ⟨h, List.Perm.refl _⟩
  | x :: l, a, h => by
    obtain ⟨h1, h2⟩ := ins_all l (insK x a) (insK_sorted h)
    exact ⟨h1, h2.trans ((List.Perm.append_left l (insK_perm x a)).trans List.perm_middle)⟩
/-- WHAT THE REFERENCE COLLECTS FROM A TEXT: the edition. -/
theorem collR_text {e : Ed} (h : validE e) : collR (textE e) = e := by
  have hb := ent_bounds h
  have hret := h.2.2.1.2.1
  have hw : wordsL 10 (textE e) = linesE e ++ [[]] := by
    rw [textE_lines h]
    refine words_lines _ ?_
    intro l hl hm
    unfold linesE at hl
    rcases List.mem_append.1 hl with hl | hl
    · obtain ⟨x, hx, rfl⟩ := List.mem_map.1 hl
      obtain ⟨h1, h2⟩ := hb x ((byNum_mem e x).1 hx)
      unfold lineT at hm
      simp only [List.mem_append, List.mem_cons] at hm
      rcases hm with hm | hm | hm | hm | hm
      · exact itoa_no10 (by omega) hm
      · exact absurd hm (by decide)
      · exact absurd hm (by decide)
      · exact absurd hm (by decide)
      · exact itoa_no10 (by omega) hm
    · split at hl
      · cases hl
      · rw [List.mem_singleton] at hl
        subst hl
        unfold retLine at hm
        rcases List.mem_append.1 hm with hm | hm
        · revert hm; decide
        · obtain ⟨n, hn, hm⟩ := List.mem_flatMap.1 hm
          have := hret n hn
          rcases List.mem_cons.1 hm with hm | hm
          · exact absurd hm (by decide)
          · exact itoa_no10 (by omega) hm
  unfold collR
  rw [hw, List.dropLast_concat, List.getLastD_concat, if_neg (by decide)]
  unfold linesE
  obtain ⟨b, hf⟩ := foldR_lines (byNum e) true edZero (fun x hx => hb x ((byNum_mem e x).1 hx)) (if e.ret = [] then [] else [retLine e.ret])
  rw [hf]
  obtain ⟨hs, hp⟩ := ins_all (byNum e) [] List.Pairwise.nil
  rw [List.append_nil] at hp
  have he : (byNum e).foldl (fun a x => insK x a) edZero.ents = e.ents := byKey_of h hp hs
  rw [he]
  by_cases hr : e.ret = []
  · rw [if_pos hr]
    show (⟨e.ents, edZero.ret⟩ : Ed) = e
    cases e
    simp only at hr
    rw [hr]; rfl
  · rw [if_neg hr]
    show stepR b ⟨e.ents, edZero.ret⟩ (retLine e.ret) = e
    rw [stepR_ret hret]
end Go.Proofs.YtccmchmemafjdaaGreatDoor
