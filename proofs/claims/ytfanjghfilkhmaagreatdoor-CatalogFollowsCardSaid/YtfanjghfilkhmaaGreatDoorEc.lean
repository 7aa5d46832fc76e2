/- More of the next edition in plain words (chapter 47): the same keys, the reference's range, the text. -/
import Derived.Test.YtfanjghfilkhmaaGreatDoorEb
import Derived.Test.YtfanjghfilkhmaaGreatDoorSa
set_option linter.unusedSimpArgs false
set_option linter.unusedVariables false
namespace Go.Proofs.YtfanjghfilkhmaaGreatDoor

theorem newEnts_same {e : Ed} (hk : (keysE e).Nodup) : ∀ (l : List (Int × Int)) (t : Int), (∀ x ∈ l, x ∈ e.ents) → newEnts e (l.map Prod.fst) t = (l, t)
  | [], t, _ => rfl
  | x :: l, t, h => by
    have h1 := findE_mem hk (h x (by simp))
    have h2 := newEnts_same hk l t (fun y hy => h y (by simp [hy]))
    rw [List.map_cons]
    unfold newEnts
    rw [h1, h2]
theorem next_same {e : Ed} (h : validE e) : NextOk e (keysE e) ∧ nextOf e (keysE e) = e := by
  have hk := validE_keys h
  have h1 : newEnts e (keysE e) (topE e) = (e.ents, topE e) := newEnts_same hk e.ents _ (fun x hx => hx)
  have hr : retE e (keysE e) = e.ret := by
    refine asc_unique ?_ h.2.2.1.1 fun x => ?_
    · have := h.2.2.1.1
      have hf : e.ents.filter (fun x => !(keysE e).contains x.1) = [] := by
        rw [List.filter_eq_nil_iff]
        intro x hx
        simp [keysE]
        exact ⟨x.2, hx⟩
      unfold retE
      rw [hf, List.map_nil, List.append_nil]
      exact sortI_lt (asc_nodup this)
    · rw [retE_mem]
      constructor
      · rintro (h' | ⟨y, hy, hyl, _⟩)
        · exact h'
        · exact absurd (List.mem_map_of_mem (f := Prod.fst) hy) hyl
      · exact .inl
  have ht : topE e ≤ 999 := by
    obtain ⟨_, h2, ⟨_, r2, _⟩, _⟩ := h
    obtain ⟨_, n2, _⟩ := okList_sort.1 h2
    unfold topE
    suffices hs : ∀ (l : List Int) (a : Int), a ≤ 999 → (∀ x ∈ l, x ≤ 999) → l.foldl max a ≤ 999 from hs _ 0 (by omega) (fun x hx => by
      rcases List.mem_append.1 hx with hx | hx
      · exact (n2 x hx).2
      · exact (r2 x hx).2)
    intro l
    induction l with
    | nil => intro a ha _; exact ha
    | cons y l ih => intro a ha hl; rw [List.foldl_cons]; exact ih _ (by have := hl y (by simp); omega) (fun x hx => hl x (by simp [hx]))
  refine ⟨⟨h, h.1, by rw [hr]; exact h.2.2.1.2.2, by rw [h1]; exact ht⟩, ?_⟩
  unfold nextOf
  rw [h1, hr]
theorem top_le {e : Ed} (h : validE e) : topE e ≤ 999 := by
  have := (next_same h).1.range
  have h1 : newEnts e (keysE e) (topE e) = (e.ents, topE e) := newEnts_same (validE_keys h) e.ents _ (fun x hx => hx)
  rw [h1] at this
  exact this
/-- The reference asks of each number as it comes whether it is too great. -/
theorem range_iff {e : Ed} (he : ∀ x ∈ e.ents, x.2 ≤ 999) : ∀ (l : List Int) (t : Int), t ≤ 999 → ((∃ x ∈ (newEnts e l t).1, 999 < x.2) ↔ 999 < (newEnts e l t).2)
  | [], t, ht => by simp [newEnts]; omega
  | k :: r, t, ht => by
    unfold newEnts
    cases hf : findE e k with
    | some n =>
      have hn := he _ (findE_some hf)
      have ih := range_iff he r t ht
      simp only
      rw [← ih]
      constructor
      · rintro ⟨x, hx, h⟩
        rcases List.mem_cons.1 hx with rfl | hx
        · simp only at h hn; omega
        · exact ⟨x, hx, h⟩
      · rintro ⟨x, hx, h⟩; exact ⟨x, by simp [hx], h⟩
    | none =>
      simp only
      have hge := newEnts_top e r (t + 1)
      by_cases ht1 : t + 1 ≤ 999
      · have ih := range_iff he r (t + 1) ht1
        rw [← ih]
        constructor
        · rintro ⟨x, hx, h⟩
          rcases List.mem_cons.1 hx with rfl | hx
          · simp only at h; omega
          · exact ⟨x, hx, h⟩
        · rintro ⟨x, hx, h⟩; exact ⟨x, by simp [hx], h⟩
      · exact ⟨fun _ => by omega, fun _ => ⟨(k, t + 1), by simp, by simp only; omega⟩⟩
/-- Of a key that was there the number is the old one; of another one it is above all that were used. -/
theorem next_number {e : Ed} {l : List Int} (h : NextOk e l) {x : Int × Int} (hx : x ∈ (nextOf e l).ents) : (∀ n, findE e x.1 = some n → x.2 = n) ∧ (findE e x.1 = none → topE e < x.2) := by
  rcases newEnts_mem e l _ x hx with h' | ⟨h1, h2, _⟩
  · exact ⟨fun n hn => Option.some.inj (h'.symm.trans hn), fun hn => by rw [hn] at h'; cases h'⟩
  · exact ⟨fun n hn => by rw [hn] at h1; (cases h1), fun _ => h2⟩

/-! ### The text. -/
def byNum (e : Ed) : List (Int × Int) := e.ents.mergeSort (fun a b => decide (a.2 ≤ b.2))
def lineE (x : Int × Int) : List UInt8 := Lib.itoa x.2 ++ (32 :: 61 :: 32 :: (Lib.itoa x.1 ++ [10]))
def retT (l : List Int) : List UInt8 := if l = [] then [] else [114, 101, 116, 105, 114, 101, 100] ++ (l.flatMap (fun n => 32 :: Lib.itoa n) ++ [10])
def textE (e : Ed) : List UInt8 := if validE e then (byNum e).flatMap lineE ++ retT e.ret else []
theorem byNum_mem (e : Ed) (x : Int × Int) : x ∈ byNum e ↔ x ∈ e.ents := (List.mergeSort_perm e.ents _).mem_iff
theorem byNum_lt {e : Ed} (h : (numsE e).Nodup) : (byNum e).Pairwise (fun a b => a.2 < b.2) := by
  have h1 := List.pairwise_mergeSort (le := fun a b : Int × Int => decide (a.2 ≤ b.2)) (fun a b c h1 h2 => by simp only [decide_eq_true_eq] at *; omega) (fun a b => by simp only [Bool.or_eq_true, decide_eq_true_eq]; omega) e.ents
  have h2 : ((byNum e).map Prod.snd).Nodup := ((List.mergeSort_perm e.ents _).map Prod.snd).nodup_iff.2 h
  rw [List.Nodup, List.pairwise_map] at h2
  exact (h1.and h2).imp (fun h => by have h3 := h.1; have := h.2; simp only [decide_eq_true_eq] at h3; omega)
/-- The reference goes through the numbers from 1. -/
theorem byNum_eq {e : Ed} (h : validE e) : byNum e = ((List.range 999).map (fun (k : Nat) => (k : Int) + 1)).filterMap (fun n => (ownE e n).map (fun key => (key, n))) := by
  have hn := validE_nums h
  obtain ⟨_, n2, _⟩ := okList_sort.1 h.2.1
  have hr : (((List.range 999).map (fun (k : Nat) => (k : Int) + 1)).filterMap (fun n => (ownE e n).map (fun key => (key, n)))).Pairwise (fun a b => a.2 < b.2) := by
    rw [List.pairwise_filterMap]
    refine (range_asc 999).imp (fun {a b} hab x hx y hy => ?_)
    obtain ⟨k1, _, rfl⟩ := Option.map_eq_some_iff.1 hx
    obtain ⟨k2, _, rfl⟩ := Option.map_eq_some_iff.1 hy
    exact hab
  refine List.Perm.eq_of_pairwise (le := fun a b : Int × Int => a.2 ≤ b.2) (fun a b ha hb h3 h4 => ent_num hn ((byNum_mem e a).1 ha) (?_) (by omega)) ((byNum_lt hn).imp (fun h => by omega)) (hr.imp (fun h => by omega)) ((List.perm_ext_iff_of_nodup ((byNum_lt hn).imp (fun h e' => by rw [e'] at h; omega)) (hr.imp (fun h e' => by rw [e'] at h; omega))).2 fun x => ?_)
  · obtain ⟨n, _, hx⟩ := List.mem_filterMap.1 hb
    obtain ⟨key, hk, rfl⟩ := Option.map_eq_some_iff.1 hx
    exact ownE_some hk
  · rw [byNum_mem, List.mem_filterMap]
    constructor
    · intro hx
      exact ⟨x.2, mem_range1.2 (n2 _ (List.mem_map_of_mem (f := Prod.snd) hx)), by rw [ownE_mem hn hx]; rfl⟩
    · rintro ⟨n, _, hx⟩
      obtain ⟨key, hk, rfl⟩ := Option.map_eq_some_iff.1 hx
      exact ownE_some hk
end Go.Proofs.YtfanjghfilkhmaaGreatDoor
