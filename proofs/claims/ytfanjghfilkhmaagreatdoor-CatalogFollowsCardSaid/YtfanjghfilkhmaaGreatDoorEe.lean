/- Reading an edition in plain words (chapter 47): what the program's Parse collects, and that it finds what a text was made of. -/
import Derived.Test.YtfanjghfilkhmaaGreatDoorEc
import Derived.Test.YtfanjghfilkhmaaGreatDoorSb
set_option linter.unusedSimpArgs false
set_option linter.unusedVariables false
namespace Go.Proofs.YtfanjghfilkhmaaGreatDoor

theorem index_eq3 : ∀ (d r : List UInt8), (32 : UInt8) ∉ d → Lib.index (d ++ 32 :: 61 :: 32 :: r) [32, 61, 32] = d.length
  | [], r, _ => by simp [Lib.index, List.isPrefixOf]
  | x :: d, r, h => by
    have hc : ((32 : UInt8) == x) = false := by rw [beq_eq_false_iff_ne]; intro e; exact h (by rw [e]; exact List.mem_cons_self ..)
    have ih := index_eq3 d r (fun h' => h (List.mem_cons_of_mem _ h'))
    have hne : ((d.length : Int) == -1) = false := by rw [beq_eq_false_iff_ne]; omega
    simp [Lib.index, List.isPrefixOf, hc, ih, hne]
theorem cut_eq3 (d r : List UInt8) (h : (32 : UInt8) ∉ d) : Lib.cut (d ++ 32 :: 61 :: 32 :: r) [32, 61, 32] = (d, r, true) := by
  unfold Lib.cut; rw [index_eq3 d r h, if_pos (by omega)]
  simp
/-- The lines of a text, without their ends; nothing behind the last end is no line. -/
def lnsL (s : List UInt8) : List (List UInt8) := if (wordsL 10 s).getLast? = some [] then (wordsL 10 s).dropLast else wordsL 10 s
theorem words_lines : ∀ ls : List (List UInt8), (∀ l ∈ ls, (10 : UInt8) ∉ l) → wordsL 10 (ls.flatMap (fun l => l ++ [10])) = ls ++ [[]]
  | [], _ => rfl
  | l :: ls, h => by
    rw [List.flatMap_cons, List.append_assoc, List.singleton_append, wordsL_cut 10 _ _ (h l (by simp)), words_lines ls (fun x hx => h x (by simp [hx]))]
    rfl
theorem lns_lines {ls : List (List UInt8)} (h : ∀ l ∈ ls, (10 : UInt8) ∉ l) : lnsL (ls.flatMap (fun l => l ++ [10])) = ls := by
  unfold lnsL; rw [words_lines ls h, if_pos (by simp), List.dropLast_concat]
def retP : List UInt8 := [114, 101, 116, 105, 114, 101, 100, 32]
def stepP (e : Ed) (l : List UInt8) : Ed :=
  if retP.isPrefixOf l then ⟨e.ents, e.ret ++ (wordsL 32 (l.drop 8)).map numL⟩
  else ⟨e.ents ++ [(numL (Lib.cut l [32, 61, 32]).2.1, numL (Lib.cut l [32, 61, 32]).1)], e.ret⟩
def collP (s : List UInt8) : Ed := (lnsL s).foldl stepP edZero
def lineT (x : Int × Int) : List UInt8 := Lib.itoa x.2 ++ 32 :: 61 :: 32 :: Lib.itoa x.1
def retLine (l : List Int) : List UInt8 := [114, 101, 116, 105, 114, 101, 100] ++ l.flatMap (fun n => 32 :: Lib.itoa n)
def linesE (e : Ed) : List (List UInt8) := (byNum e).map lineT ++ (if e.ret = [] then [] else [retLine e.ret])
theorem textE_lines {e : Ed} (h : validE e) : textE e = (linesE e).flatMap (fun l => l ++ [10]) := by
  unfold textE linesE
  rw [if_pos h, List.flatMap_append]
  congr 1
  · rw [List.flatMap_map]
    congr 1
    funext x
    simp [lineE, lineT]
  · unfold retT
    by_cases hr : e.ret = []
    · rw [if_pos hr, if_pos hr]; rfl
    · rw [if_neg hr, if_neg hr]; simp [retLine]
theorem not_dig32 : ¬ isDig 32 := by unfold isDig; decide
theorem not_dig10 : ¬ isDig 10 := by unfold isDig; decide
theorem itoa_no32 {n : Int} (h : 0 ≤ n) : (32 : UInt8) ∉ Lib.itoa n := no_dig (itoa_dig n h) not_dig32
theorem itoa_no10 {n : Int} (h : 0 ≤ n) : (10 : UInt8) ∉ Lib.itoa n := no_dig (itoa_dig n h) not_dig10
theorem itoa_cons {n : Int} (h : 0 ≤ n) : ∃ c r, Lib.itoa n = c :: r ∧ isDig c := by
  cases hi : Lib.itoa n with
  | nil => exact absurd (hi ▸ itoa_nat n h) (fun e => dec_ne _ e.symm)
  | cons c r => exact ⟨c, r, rfl, itoa_dig n h c (by rw [hi]; simp)⟩
theorem stepP_line {e : Ed} {x : Int × Int} (h1 : 1 ≤ x.1 ∧ x.1 ≤ 9999) (h2 : 1 ≤ x.2 ∧ x.2 ≤ 999) : stepP e (lineT x) = ⟨e.ents ++ [x], e.ret⟩ := by
  obtain ⟨c, r, hc, hd⟩ := itoa_cons (n := x.2) (by omega)
  have hp : retP.isPrefixOf (lineT x) = false := by
    unfold lineT; rw [hc]
    have : ((114 : UInt8) == c) = false := by
      rw [beq_eq_false_iff_ne]; intro e'; rw [← e'] at hd; revert hd; unfold isDig; decide
    simp [retP, List.isPrefixOf, this]
  unfold stepP
  rw [hp, if_neg (by decide)]
  unfold lineT
  rw [cut_eq3 _ _ (itoa_no32 (by omega))]
  simp only
  rw [numL_itoa _ (by omega) (by omega), numL_itoa _ (by omega) (by omega)]
theorem words_nums : ∀ (a : Int) (l : List Int), (∀ n ∈ a :: l, 1 ≤ n ∧ n ≤ 999) → wordsL 32 (Lib.itoa a ++ l.flatMap (fun n => 32 :: Lib.itoa n)) = (a :: l).map Lib.itoa
  | a, [], h => by
    have := h a (by simp)
    rw [List.flatMap_nil, List.append_nil, wordsL_none 32 _ (itoa_no32 (by omega))]; rfl
  | a, b :: l, h => by
    have := h a (by simp)
    rw [List.flatMap_cons, List.cons_append, wordsL_cut 32 _ _ (itoa_no32 (by omega)), words_nums b l (fun n hn => h n (by simp only [List.mem_cons] at hn ⊢; exact .inr hn))]
    rfl
theorem stepP_ret {e : Ed} {l : List Int} (hl : l ≠ []) (h : ∀ n ∈ l, 1 ≤ n ∧ n ≤ 999) : stepP e (retLine l) = ⟨e.ents, e.ret ++ l⟩ := by
  cases l with
  | nil => exact absurd rfl hl
  | cons a l =>
    have hp : retP.isPrefixOf (retLine (a :: l)) = true := by simp [retP, retLine, List.isPrefixOf]
    have hd : (retLine (a :: l)).drop 8 = Lib.itoa a ++ l.flatMap (fun n => 32 :: Lib.itoa n) := by simp [retLine]
    unfold stepP
    rw [if_pos hp, hd, words_nums a l h, List.map_map]
    congr 1
    congr 1
    conv => rhs; rw [← List.map_id (a :: l)]
    refine List.map_congr_left (fun n hn => ?_)
    have := h n hn
    simp [numL_itoa n (by omega) (by omega)]
theorem foldP_lines {l : List (Int × Int)} : ∀ (e : Ed), (∀ x ∈ l, (1 ≤ x.1 ∧ x.1 ≤ 9999) ∧ (1 ≤ x.2 ∧ x.2 ≤ 999)) → (l.map lineT).foldl stepP e = ⟨e.ents ++ l, e.ret⟩ := by
  induction l with
  | nil => intro e _; simp
  | cons x l ih =>
    intro e h
    obtain ⟨h1, h2⟩ := h x (by simp)
    rw [List.map_cons, List.foldl_cons, stepP_line h1 h2, ih _ (fun y hy => h y (by simp [hy]))]
    simp
theorem ent_bounds {e : Ed} (h : validE e) : ∀ x ∈ e.ents, (1 ≤ x.1 ∧ x.1 ≤ 9999) ∧ (1 ≤ x.2 ∧ x.2 ≤ 999) := fun x hx =>
  ⟨h.1.2.1 _ (List.mem_map_of_mem (f := Prod.fst) hx), (okList_sort.1 h.2.1).2.1 _ (List.mem_map_of_mem (f := Prod.snd) hx)⟩
/-- WHAT THE PROGRAM COLLECTS FROM A TEXT: the entries by their numbers, and the retired ones. -/
theorem collP_text {e : Ed} (h : validE e) : collP (textE e) = ⟨byNum e, e.ret⟩ := by
  have hb := ent_bounds h
  have hno : ∀ l ∈ linesE e, (10 : UInt8) ∉ l := by
    intro l hl hm
    unfold linesE at hl
    rcases List.mem_append.1 hl with hl | hl
    · obtain ⟨x, hx, rfl⟩ := List.mem_map.1 hl
      obtain ⟨h1, h2⟩ := hb x ((byNum_mem e x).1 hx)
      unfold lineT at hm
      simp only [List.mem_append, List.mem_cons] at hm
      rcases hm with hm | hm | hm | hm | hm
      · exact itoa_no10 (by omega) hm
      · exact absurd hm (by decide)
      · exact absurd hm (by decide)
      · exact absurd hm (by decide)
      · exact itoa_no10 (by omega) hm
    · split at hl
      · cases hl
      · rw [List.mem_singleton] at hl
        subst hl
        unfold retLine at hm
        rcases List.mem_append.1 hm with hm | hm
        · revert hm; decide
        · obtain ⟨n, hn, hm⟩ := List.mem_flatMap.1 hm
          have := h.2.2.1.2.1 n hn
          rcases List.mem_cons.1 hm with hm | hm
          · exact absurd hm (by decide)
          · exact itoa_no10 (by omega) hm
  unfold collP
  rw [textE_lines h, lns_lines hno]
  unfold linesE
  rw [List.foldl_append, foldP_lines _ (fun x hx => hb x ((byNum_mem e x).1 hx))]
  by_cases hr : e.ret = []
  · rw [if_pos hr, hr]; simp [edZero]
  · rw [if_neg hr, List.foldl_cons, List.foldl_nil, stepP_ret hr (fun n hn => h.2.2.1.2.1 n hn)]
    simp [edZero]
/-- Sorted by key, whatever the way: the edition. -/
theorem byKey_of {e : Ed} (h : validE e) {ys : List (Int × Int)} (hp : ys.Perm (byNum e)) (hs : ys.Pairwise (fun a b => a.1 ≤ b.1)) : ys = e.ents := by
  have hk := h.1.1
  have hents : e.ents.Pairwise (fun a b => a.1 ≤ b.1) := by
    unfold keysE at hk
    rw [List.pairwise_map] at hk
    exact hk.imp (fun h => by omega)
  have hp2 : ys.Perm e.ents := hp.trans (List.mergeSort_perm e.ents _)
  exact List.Perm.eq_of_pairwise (le := fun a b : Int × Int => a.1 ≤ b.1) (fun a b ha hb h3 h4 => ent_key (validE_keys h) (hp2.subset ha) hb (by omega)) hs hents hp2
theorem textE_inj {e f : Ed} (he : validE e) (hf : validE f) (h : textE e = textE f) : e = f := by
  have h1 := collP_text he
  rw [h, collP_text hf] at h1
  have hs : ∀ g : Ed, validE g → g.ents.Pairwise (fun a b => a.1 ≤ b.1) := fun g hg => by
    have hk := hg.1.1
    unfold keysE at hk
    rw [List.pairwise_map] at hk
    exact hk.imp (fun h => by omega)
  obtain ⟨h2, h3⟩ := Ed.mk.inj h1
  have h4 : e.ents = f.ents := byKey_of hf (h2 ▸ (List.mergeSort_perm e.ents _).symm) (hs e he)
  cases e; cases f
  simp only at h3 h4
  rw [h3, h4]
end Go.Proofs.YtfanjghfilkhmaaGreatDoor
