/- What the reference collects from a text of an edition, in plain words (chapter 47). -/
import Derived.Test.YtfanjghfilkhmaaGreatDoorEf
set_option linter.unusedSimpArgs false
set_option linter.unusedVariables false
namespace Go.Proofs.YtfanjghfilkhmaaGreatDoor

theorem numsF_skip {c : UInt8} (h : ¬ isDig c) (pd : Bool) (acc : List Int) (r : List UInt8) : numsF pd acc (c :: r) = numsF false acc r := by
  have hc : isDigB c = false := by
    cases hb : isDigB c with
    | false => rfl
    | true => exact absurd ((isDigB_iff c).1 hb) h
  show numsF (isDigB c) (numStep pd acc c) r = _
  unfold numStep
  rw [hc, if_neg (by decide)]
theorem digsV_itoa {n : Int} (h : 0 ≤ n) (h2 : n ≤ 99999) : digsV 0 (Lib.itoa n) = n := by
  have h1 := digsV_from (Lib.itoa n) 0 n.toNat (itoa_dig n h) (by rw [itoa_nat n h]; exact decFrom_dec _) (by omega)
  rw [show ((0 : Nat) : Int) = 0 from rfl] at h1
  rw [h1]; omega
theorem itoa_ne2 {n : Int} (h : 0 ≤ n) : Lib.itoa n ≠ [] := by rw [itoa_nat n h]; exact dec_ne _
theorem numsF_itoa {n : Int} (h : 0 ≤ n) (h2 : n ≤ 99999) (acc : List Int) : numsF false acc (Lib.itoa n) = acc ++ [n] := by
  rw [numsF_number (itoa_ne2 h) (itoa_dig n h), digsV_itoa h h2]
theorem numsF_itoa_then {n : Int} (h : 0 ≤ n) (h2 : n ≤ 99999) (acc : List Int) {c : UInt8} (hc : ¬ isDig c) (r : List UInt8) : numsF false acc (Lib.itoa n ++ c :: r) = numsF false (acc ++ [n]) r := by
  rw [numsF_append, numsF_itoa h h2, numsF_skip hc]
theorem not_dig61 : ¬ isDig 61 := by unfold isDig; decide
theorem nums_line {x : Int × Int} (h1 : 1 ≤ x.1 ∧ x.1 ≤ 9999) (h2 : 1 ≤ x.2 ∧ x.2 ≤ 999) : numsF false [] (lineT x) = [x.2, x.1] := by
  unfold lineT
  rw [numsF_itoa_then (by omega) (by omega) _ not_dig32, numsF_skip not_dig61, numsF_skip not_dig32, numsF_itoa (by omega) (by omega)]
  rfl
theorem nums_tail : ∀ (l acc : List Int), (∀ n ∈ l, 1 ≤ n ∧ n ≤ 999) → ∀ pd, numsF pd acc (l.flatMap (fun n => 32 :: Lib.itoa n)) = acc ++ l
  | [], acc, _, pd => by simp [numsF]
  | n :: l, acc, h, pd => by
    have hn := h n (by simp)
    rw [List.flatMap_cons, List.cons_append, numsF_skip not_dig32, numsF_append, numsF_itoa (by omega) (by omega), nums_tail l _ (fun m hm => h m (by simp [hm]))]
    simp
theorem nums_ret {l : List Int} (h : ∀ n ∈ l, 1 ≤ n ∧ n ≤ 999) : numsF false [] (retLine l) = l := by
  unfold retLine
  simp only [List.cons_append, List.nil_append]
  iterate 7 rw [numsF_skip (by unfold isDig; decide)]
  rw [nums_tail l [] h]
  rfl
/-- An entry set in before the first of a key that is not less. -/
def insK (x : Int × Int) (l : List (Int × Int)) : List (Int × Int) := l.takeWhile (fun y => decide (y.1 < x.1)) ++ x :: l.dropWhile (fun y => decide (y.1 < x.1))
theorem insK_perm (x : Int × Int) (l : List (Int × Int)) : (insK x l).Perm (x :: l) := by
  unfold insK
  refine List.perm_middle.trans ?_
  rw [List.takeWhile_append_dropWhile]
theorem insK_sorted {x : Int × Int} {l : List (Int × Int)} (h : l.Pairwise (fun a b => a.1 ≤ b.1)) : (insK x l).Pairwise (fun a b => a.1 ≤ b.1) := by
  induction l with
  | nil => exact List.pairwise_singleton ..
  | cons y l ih =>
    obtain ⟨h1, h2⟩ := List.pairwise_cons.1 h
    unfold insK
    by_cases hy : y.1 < x.1
    · rw [List.takeWhile_cons_of_pos (by simpa using hy), List.dropWhile_cons_of_pos (by simpa using hy), List.cons_append, List.pairwise_cons]
      refine ⟨fun b hb => ?_, ih h2⟩
      rcases List.mem_cons.1 ((insK_perm x l).subset hb) with rfl | hb
      · omega
      · exact h1 b hb
    · rw [List.takeWhile_cons_of_neg (by simpa using hy), List.dropWhile_cons_of_neg (by simpa using hy), List.nil_append, List.pairwise_cons]
      refine ⟨fun b hb => ?_, h⟩
      rcases List.mem_cons.1 hb with rfl | hb
      · omega
      · have := h1 b hb; omega
/-- A line read; 'first': it is the first one, whose first byte is not looked at for the sign '='. -/
def stepR (first : Bool) (e : Ed) (l : List UInt8) : Ed :=
  if ((if first then l.drop 1 else l).contains 61 && (numsF false [] l).length == 2) = true then
    ⟨insK ((numsF false [] l).getD 1 0, (numsF false [] l).getD 0 0) e.ents, if l.contains 114 then [] else e.ret⟩
  else ⟨e.ents, numsF false [] l⟩
def foldR : Bool → Ed → List (List UInt8) → Ed
  | _, e, [] => e
  | first, e, l :: r => foldR false (stepR first e l) r
def collR (s : List UInt8) : Ed :=
  if ((wordsL 10 s).getLastD []).contains 114 then ⟨(foldR true edZero (wordsL 10 s).dropLast).ents, []⟩ else foldR true edZero (wordsL 10 s).dropLast
theorem lineT_r {x : Int × Int} (h1 : 0 ≤ x.1) (h2 : 0 ≤ x.2) : (lineT x).contains 114 = false := by
  rw [← Bool.not_eq_true, List.contains_iff_mem]
  unfold lineT
  simp only [List.mem_append, List.mem_cons]
  rintro (h | h | h | h | h)
  · exact absurd (itoa_dig x.2 h2 _ h) (by unfold isDig; decide)
  · exact absurd h (by decide)
  · exact absurd h (by decide)
  · exact absurd h (by decide)
  · exact absurd (itoa_dig x.1 h1 _ h) (by unfold isDig; decide)
theorem lineT_eq {x : Int × Int} (h2 : 0 ≤ x.2) (first : Bool) : (if first then (lineT x).drop 1 else lineT x).contains 61 = true := by
  rw [List.contains_iff_mem]
  obtain ⟨c, r, hc, _⟩ := itoa_cons h2
  unfold lineT
  rw [hc]
  cases first <;> simp
theorem stepR_line {e : Ed} {x : Int × Int} (h1 : 1 ≤ x.1 ∧ x.1 ≤ 9999) (h2 : 1 ≤ x.2 ∧ x.2 ≤ 999) (first : Bool) : stepR first e (lineT x) = ⟨insK x e.ents, e.ret⟩ := by
  unfold stepR
  rw [nums_line h1 h2, lineT_eq (by omega) first, lineT_r (by omega) (by omega)]
  rfl
theorem retLine_eq {l : List Int} (h : ∀ n ∈ l, 1 ≤ n ∧ n ≤ 999) : (61 : UInt8) ∉ retLine l := by
  unfold retLine
  intro hm
  rcases List.mem_append.1 hm with hm | hm
  · revert hm; decide
  · obtain ⟨n, hn, hm⟩ := List.mem_flatMap.1 hm
    have := h n hn
    rcases List.mem_cons.1 hm with hm | hm
    · exact absurd hm (by decide)
    · exact absurd (itoa_dig n (by omega) _ hm) not_dig61
theorem stepR_ret {e : Ed} {l : List Int} (h : ∀ n ∈ l, 1 ≤ n ∧ n ≤ 999) (first : Bool) : stepR first e (retLine l) = ⟨e.ents, l⟩ := by
  have hne : (if first then (retLine l).drop 1 else retLine l).contains 61 = false := by
    rw [← Bool.not_eq_true, List.contains_iff_mem]
    intro hm
    refine retLine_eq h ?_
    cases first
    · exact hm
    · exact List.mem_of_mem_drop hm
  unfold stepR
  rw [hne, nums_ret h]
  rfl
theorem foldR_lines : ∀ (l : List (Int × Int)) (first : Bool) (e : Ed), (∀ x ∈ l, (1 ≤ x.1 ∧ x.1 ≤ 9999) ∧ (1 ≤ x.2 ∧ x.2 ≤ 999)) → ∀ r, ∃ b, foldR first e (l.map lineT ++ r) = foldR b ⟨l.foldl (fun a x => insK x a) e.ents, e.ret⟩ r
  | [], first, e, _, r => ⟨first, rfl⟩
  | x :: l, first, e, h, r => by
    obtain ⟨h1, h2⟩ := h x (by simp)
    obtain ⟨b, hb⟩ := foldR_lines l false (stepR first e (lineT x)) (fun y hy => h y (by simp [hy])) r
    refine ⟨b, ?_⟩
    rw [List.map_cons, List.cons_append]
    show foldR false (stepR first e (lineT x)) (l.map lineT ++ r) = _
    rw [hb, stepR_line h1 h2]
    rfl
theorem ins_all : ∀ (l a : List (Int × Int)), a.Pairwise (fun x y => x.1 ≤ y.1) → (l.foldl (fun a x => insK x a) a).Pairwise (fun x y => x.1 ≤ y.1) ∧ (l.foldl (fun a x => insK x a) a).Perm (l ++ a)
  | [], a, h => ⟨h, List.Perm.refl _⟩
  | x :: l, a, h => by
    obtain ⟨h1, h2⟩ := ins_all l (insK x a) (insK_sorted h)
    exact ⟨h1, h2.trans ((List.Perm.append_left l (insK_perm x a)).trans List.perm_middle)⟩
/-- WHAT THE REFERENCE COLLECTS FROM A TEXT: the edition. -/
theorem collR_text {e : Ed} (h : validE e) : collR (textE e) = e := by
  have hb := ent_bounds h
  have hret := h.2.2.1.2.1
  have hw : wordsL 10 (textE e) = linesE e ++ [[]] := by
    rw [textE_lines h]
    refine words_lines _ ?_
    intro l hl hm
    unfold linesE at hl
    rcases List.mem_append.1 hl with hl | hl
    · obtain ⟨x, hx, rfl⟩ := List.mem_map.1 hl
      obtain ⟨h1, h2⟩ := hb x ((byNum_mem e x).1 hx)
      unfold lineT at hm
      simp only [List.mem_append, List.mem_cons] at hm
      rcases hm with hm | hm | hm | hm | hm
      · exact itoa_no10 (by omega) hm
      · exact absurd hm (by decide)
      · exact absurd hm (by decide)
      · exact absurd hm (by decide)
      · exact itoa_no10 (by omega) hm
    · split at hl
      · cases hl
      · rw [List.mem_singleton] at hl
        subst hl
        unfold retLine at hm
        rcases List.mem_append.1 hm with hm | hm
        · revert hm; decide
        · obtain ⟨n, hn, hm⟩ := List.mem_flatMap.1 hm
          have := hret n hn
          rcases List.mem_cons.1 hm with hm | hm
          · exact absurd hm (by decide)
          · exact itoa_no10 (by omega) hm
  unfold collR
  rw [hw, List.dropLast_concat, List.getLastD_concat, if_neg (by decide)]
  unfold linesE
  obtain ⟨b, hf⟩ := foldR_lines (byNum e) true edZero (fun x hx => hb x ((byNum_mem e x).1 hx)) (if e.ret = [] then [] else [retLine e.ret])
  rw [hf]
  obtain ⟨hs, hp⟩ := ins_all (byNum e) [] List.Pairwise.nil
  rw [List.append_nil] at hp
  have he : (byNum e).foldl (fun a x => insK x a) edZero.ents = e.ents := byKey_of h hp hs
  rw [he]
  by_cases hr : e.ret = []
  · rw [if_pos hr]
    show (⟨e.ents, edZero.ret⟩ : Ed) = e
    cases e
    simp only at hr
    rw [hr]; rfl
  · rw [if_neg hr]
    show stepR b ⟨e.ents, edZero.ret⟩ (retLine e.ret) = e
    rw [stepR_ret hret]
end Go.Proofs.YtfanjghfilkhmaaGreatDoor
