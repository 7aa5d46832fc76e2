/- Editions in plain words (chapter 47): valid, find, owner, next, follows. No program in sight. -/
import Derived.Test.YtfanjghfilkhmaaGreatDoorBase
set_option linter.unusedSimpArgs false
set_option linter.unusedVariables false
namespace Go.Proofs.YtfanjghfilkhmaaGreatDoor

/-- An edition: entries (key, value), and the numbers that are retired. -/
structure Ed where
  ents : List (Int × Int)
  ret : List Int
  deriving DecidableEq
def edZero : Ed := ⟨[], []⟩
def sortI (l : List Int) : List Int := l.mergeSort (fun a b => decide (a ≤ b))
theorem sortI_perm (l : List Int) : (sortI l).Perm l := List.mergeSort_perm l _
theorem sortI_mem (l : List Int) (x : Int) : x ∈ sortI l ↔ x ∈ l := (sortI_perm l).mem_iff
theorem sortI_len (l : List Int) : (sortI l).length = l.length := (sortI_perm l).length_eq
theorem sortI_le (l : List Int) : (sortI l).Pairwise (· ≤ ·) := by
  have h := List.pairwise_mergeSort (le := fun a b : Int => decide (a ≤ b)) (fun a b c h1 h2 => by simp only [decide_eq_true_eq] at *; omega) (fun a b => by simp only [Bool.or_eq_true, decide_eq_true_eq]; omega) l
  exact h.imp (fun h => by simpa using h)
theorem asc_nodup {l : List Int} (h : l.Pairwise (· < ·)) : l.Nodup := h.imp (fun h e => by omega)
theorem asc_unique {a b : List Int} (ha : a.Pairwise (· < ·)) (hb : b.Pairwise (· < ·)) (hm : ∀ x, x ∈ a ↔ x ∈ b) : a = b :=
  List.Perm.eq_of_pairwise (le := fun a b : Int => a ≤ b) (fun a b _ _ h3 h4 => by omega) (ha.imp (fun h => by omega)) (hb.imp (fun h => by omega))
    ((List.perm_ext_iff_of_nodup (asc_nodup ha) (asc_nodup hb)).2 hm)
theorem sortI_lt {l : List Int} (h : l.Nodup) : (sortI l).Pairwise (· < ·) := by
  have h2 : (sortI l).Nodup := (sortI_perm l).nodup_iff.2 h
  exact ((sortI_le l).and h2).imp (fun h => by have := h.1; have := h.2; omega)
theorem sortI_lt_iff {l : List Int} : (sortI l).Pairwise (· < ·) ↔ l.Nodup :=
  ⟨fun h => (sortI_perm l).nodup_iff.1 (asc_nodup h), sortI_lt⟩

/-- Ascending numbers from 1 to most, at most 64. -/
def okList (l : List Int) (most : Int) : Prop := l.Pairwise (· < ·) ∧ (∀ x ∈ l, 1 ≤ x ∧ x ≤ most) ∧ l.length ≤ 64
instance (l : List Int) (most : Int) : Decidable (okList l most) := by unfold okList; infer_instance
def keysE (e : Ed) : List Int := e.ents.map Prod.fst
def numsE (e : Ed) : List Int := e.ents.map Prod.snd
/-- Valid, as the program asks. -/
def validE (e : Ed) : Prop := okList (keysE e) 9999 ∧ okList (sortI (numsE e)) 999 ∧ okList e.ret 999 ∧ ∀ r ∈ e.ret, r ∉ numsE e
instance (e : Ed) : Decidable (validE e) := by unfold validE; infer_instance
theorem okList_sort {l : List Int} {m : Int} : okList (sortI l) m ↔ l.Nodup ∧ (∀ x ∈ l, 1 ≤ x ∧ x ≤ m) ∧ l.length ≤ 64 := by
  unfold okList
  rw [sortI_lt_iff, sortI_len]
  constructor
  · rintro ⟨h1, h2, h3⟩; exact ⟨h1, fun x hx => h2 x ((sortI_mem l x).2 hx), h3⟩
  · rintro ⟨h1, h2, h3⟩; exact ⟨h1, fun x hx => h2 x ((sortI_mem l x).1 hx), h3⟩
def findE (e : Ed) (key : Int) : Option Int := (e.ents.find? (fun x => x.1 == key)).map Prod.snd
def ownE (e : Ed) (n : Int) : Option Int := (e.ents.find? (fun x => x.2 == n)).map Prod.fst
theorem findE_some {e : Ed} {key n : Int} (h : findE e key = some n) : (key, n) ∈ e.ents := by
  unfold findE at h
  cases hf : e.ents.find? (fun x => x.1 == key) with
  | none => rw [hf] at h; cases h
  | some y =>
    rw [hf] at h
    have h1 := List.mem_of_find?_eq_some hf
    have h2 : y.1 = key := by simpa using List.find?_some hf
    have h3 : y.2 = n := by simpa using h
    rw [← h2, ← h3]; exact h1
theorem findE_none {e : Ed} {key : Int} : findE e key = none ↔ key ∉ keysE e := by
  unfold findE keysE; simp
  exact ⟨fun h x hx => h key x hx rfl, fun h a b hab e => h b (e ▸ hab)⟩
theorem ownE_some {e : Ed} {key n : Int} (h : ownE e n = some key) : (key, n) ∈ e.ents := by
  unfold ownE at h
  cases hf : e.ents.find? (fun x => x.2 == n) with
  | none => rw [hf] at h; cases h
  | some y =>
    rw [hf] at h
    have h1 := List.mem_of_find?_eq_some hf
    have h2 : y.2 = n := by simpa using List.find?_some hf
    have h3 : y.1 = key := by simpa using h
    rw [← h2, ← h3]; exact h1
theorem ownE_none {e : Ed} {n : Int} : ownE e n = none ↔ n ∉ numsE e := by
  unfold ownE numsE; simp
  exact ⟨fun h x hx => h x n hx rfl, fun h a b hab e => h a (e ▸ hab)⟩
theorem map_inj {α β : Type} {f : α → β} {l : List α} (hn : (l.map f).Nodup) {a b : α} (ha : a ∈ l) (hb : b ∈ l) (h : f a = f b) : a = b := by
  induction l with
  | nil => cases ha
  | cons x l ih =>
    rw [List.map_cons, List.nodup_cons] at hn
    rcases List.mem_cons.1 ha with ea | ha
    · rcases List.mem_cons.1 hb with eb | hb
      · rw [ea, eb]
      · have := List.mem_map_of_mem (f := f) hb
        rw [← h, ea] at this
        exact absurd this hn.1
    · rcases List.mem_cons.1 hb with eb | hb
      · have := List.mem_map_of_mem (f := f) ha
        rw [h, eb] at this
        exact absurd this hn.1
      · exact ih hn.2 ha hb
theorem ent_key {e : Ed} (h : (keysE e).Nodup) {x y : Int × Int} (hx : x ∈ e.ents) (hy : y ∈ e.ents) (he : x.1 = y.1) : x = y := map_inj h hx hy he
theorem ent_num {e : Ed} (h : (numsE e).Nodup) {x y : Int × Int} (hx : x ∈ e.ents) (hy : y ∈ e.ents) (he : x.2 = y.2) : x = y := map_inj h hx hy he
theorem findE_mem {e : Ed} (h : (keysE e).Nodup) {x : Int × Int} (hx : x ∈ e.ents) : findE e x.1 = some x.2 := by
  cases hf : findE e x.1 with
  | none => exact absurd (List.mem_map_of_mem (f := Prod.fst) hx) (findE_none.1 hf)
  | some n =>
    have h1 := ent_key h (findE_some hf) hx rfl
    rw [← h1]
theorem ownE_mem {e : Ed} (h : (numsE e).Nodup) {x : Int × Int} (hx : x ∈ e.ents) : ownE e x.2 = some x.1 := by
  cases hf : ownE e x.2 with
  | none => exact absurd (List.mem_map_of_mem (f := Prod.snd) hx) (ownE_none.1 hf)
  | some n =>
    have h1 := ent_num h (ownE_some hf) hx rfl
    rw [← h1]

/-! ### Valid, as the reference asks. -/
def validR (e : Ed) : Prop := (keysE e).Pairwise (· < ·) ∧ e.ents.length ≤ 64 ∧ e.ret.length ≤ 64 ∧ (e.ret.Pairwise (· < ·) ∧ ∀ x ∈ e.ret, 1 ≤ x ∧ x ≤ 999) ∧
  ∀ x ∈ e.ents, (1 ≤ x.1 ∧ x.1 ≤ 9999) ∧ (1 ≤ x.2 ∧ x.2 ≤ 999) ∧ x.2 ∉ e.ret ∧ ownE e x.2 = some x.1
theorem validE_keys {e : Ed} (h : validE e) : (keysE e).Nodup := asc_nodup h.1.1
theorem validE_nums {e : Ed} (h : validE e) : (numsE e).Nodup := (okList_sort.1 h.2.1).1
theorem valid_iff (e : Ed) : validE e ↔ validR e := by
  constructor
  · intro h
    have hk := validE_keys h
    have hn := validE_nums h
    obtain ⟨⟨k1, k2, k3⟩, h2, ⟨r1, r2, r3⟩, h4⟩ := h
    obtain ⟨n1, n2, n3⟩ := okList_sort.1 h2
    refine ⟨k1, by simpa [keysE] using k3, r3, ⟨r1, r2⟩, fun x hx => ⟨k2 _ (List.mem_map_of_mem (f := Prod.fst) hx), n2 _ (List.mem_map_of_mem (f := Prod.snd) hx), fun hr => h4 _ hr (List.mem_map_of_mem (f := Prod.snd) hx), ownE_mem hn hx⟩⟩
  · rintro ⟨k1, k3, r3, ⟨r1, r2⟩, h5⟩
    have hk := asc_nodup k1
    refine ⟨⟨k1, fun k hk' => ?_, by simpa [keysE] using k3⟩, okList_sort.2 ⟨?_, fun n hn => ?_, by simpa [numsE] using k3⟩, ⟨r1, r2, r3⟩, fun r hr hn => ?_⟩
    · obtain ⟨x, hx, rfl⟩ := List.mem_map.1 hk'; exact (h5 x hx).1
    · -- the numbers are distinct: each leads to its own key
      have hents : e.ents.Nodup := by
        unfold keysE at hk
        rw [List.Nodup, List.pairwise_map] at hk
        exact hk.imp (fun h e => h (by rw [e]))
      unfold numsE
      rw [List.Nodup, List.pairwise_map]
      refine List.Pairwise.imp_of_mem (R := fun a b => a ≠ b) (fun {a b} ha hb hab he => ?_) hents
      have h1 := (h5 a ha).2.2.2
      have h2 := (h5 b hb).2.2.2
      rw [he, h2] at h1
      exact hab (ent_key hk ha hb (Option.some.inj h1).symm)
    · obtain ⟨x, hx, rfl⟩ := List.mem_map.1 hn; exact (h5 x hx).2.1
    · obtain ⟨x, hx, rfl⟩ := List.mem_map.1 hn; exact (h5 x hx).2.2.1 hr

/-! ### The greatest number, what is retired next. -/
def topE (e : Ed) : Int := (numsE e ++ e.ret).foldl max 0
theorem foldl_max_ge : ∀ (l : List Int) (a : Int), a ≤ l.foldl max a ∧ ∀ x ∈ l, x ≤ l.foldl max a
  | [], a => ⟨Int.le_refl _, fun x hx => by cases hx⟩
  | y :: l, a => by
    obtain ⟨h1, h2⟩ := foldl_max_ge l (max a y)
    rw [List.foldl_cons]
    refine ⟨by omega, fun x hx => ?_⟩
    rcases List.mem_cons.1 hx with rfl | hx
    · omega
    · exact h2 x hx
theorem topE_ge {e : Ed} {x : Int} (h : x ∈ numsE e ++ e.ret) : x ≤ topE e := (foldl_max_ge _ 0).2 x h
theorem topE_pos (e : Ed) : 0 ≤ topE e := (foldl_max_ge _ 0).1
/-- The numbers that the next edition retires: the program's list. -/
def retE (e : Ed) (l : List Int) : List Int := sortI (e.ret ++ (e.ents.filter (fun x => !l.contains x.1)).map Prod.snd)
/-- .. and the reference's, number by number from 1. -/
def retR (e : Ed) (l : List Int) : List Int := ((List.range 999).map (fun (k : Nat) => (k : Int) + 1)).filter (fun n => e.ret.contains n || (match ownE e n with | some key => !l.contains key | none => false))
theorem range_asc (n : Nat) : ((List.range n).map (fun (k : Nat) => (k : Int) + 1)).Pairwise (· < ·) := by
  rw [List.pairwise_map]
  exact List.pairwise_lt_range.imp (fun h => by omega)
theorem mem_range1 {n : Nat} {x : Int} : x ∈ (List.range n).map (fun (k : Nat) => (k : Int) + 1) ↔ 1 ≤ x ∧ x ≤ n := by
  rw [List.mem_map]
  constructor
  · rintro ⟨k, hk, rfl⟩; have := List.mem_range.1 hk; omega
  · rintro ⟨h1, h2⟩; exact ⟨(x - 1).toNat, List.mem_range.2 (by omega), by omega⟩
theorem ret_eq {e : Ed} (h : validE e) (l : List Int) : retE e l = retR e l := by
  have hn := validE_nums h
  obtain ⟨_, h2, ⟨r1, r2, _⟩, h4⟩ := h
  obtain ⟨_, n2, _⟩ := okList_sort.1 h2
  refine asc_unique (sortI_lt ?_) ((range_asc 999).sublist List.filter_sublist) fun x => ?_
  · rw [List.nodup_append]
    refine ⟨asc_nodup r1, List.Sublist.nodup (List.filter_sublist.map _) hn, fun a ha b hb e' => ?_⟩
    obtain ⟨y, hy, rfl⟩ := List.mem_map.1 hb
    exact h4 a ha (e' ▸ List.mem_map_of_mem (f := Prod.snd) (List.mem_filter.1 hy).1)
  · unfold retE retR
    rw [sortI_mem, List.mem_append, List.mem_filter, mem_range1, Bool.or_eq_true, List.contains_iff_mem]
    constructor
    · rintro (hr | hd)
      · exact ⟨r2 x hr, .inl hr⟩
      · obtain ⟨y, hy, rfl⟩ := List.mem_map.1 hd
        obtain ⟨hy1, hy2⟩ := List.mem_filter.1 hy
        exact ⟨n2 _ (List.mem_map_of_mem (f := Prod.snd) hy1), .inr (by rw [ownE_mem hn hy1]; exact hy2)⟩
    · rintro ⟨_, hr | ho⟩
      · exact .inl hr
      · right
        cases hf : ownE e x with
        | none => rw [hf] at ho; cases ho
        | some key =>
          rw [hf] at ho
          exact List.mem_map.2 ⟨(key, x), List.mem_filter.2 ⟨ownE_some hf, ho⟩, rfl⟩
end Go.Proofs.YtfanjghfilkhmaaGreatDoor
