/- Chapter 46: Suspects, the program's. -/
import Derived.Test.YtccmchmemafjdaaGreatDoorPi
import Derived.Deep.RegionHeld3
set_option linter.unusedSimpArgs false
set_option linter.unusedVariables false
namespace Go.Proofs.YtccmchmemafjdaaGreatDoor

def twiceI (ls : List Lst) (a b : Int) : Bool := twiceB (salesAt ls a) (salesAt ls b)
/-- Those of the rest that go with a. -/
def susA (ls : List Lst) (a : Int) (zs : List Int) : List (Int × Int) := (zs.filter (fun b => twiceI ls a b)).map (fun b => (a, b))
/-- .. of a group: each with itself and those behind it. -/
def susZ (ls : List Lst) : List Int → List (Int × Int)
  | [] => []
  | a :: r => susA ls a (a :: r) ++ susZ ls r
def susRaw (ls : List Lst) : List (Int × Int) := (grpsL ls).flatMap (susZ ls)
def leP (a b : Int × Int) : Bool := decide (¬ ltPr b a)
def susL (ls : List Lst) : List (Int × Int) := (susRaw ls).mergeSort leP
theorem leP_trans (a b c : Int × Int) (h1 : leP a b = true) (h2 : leP b c = true) : leP a c = true := by
  unfold leP ltPr at *
  simp only [decide_eq_true_eq] at *
  omega
theorem leP_total (a b : Int × Int) : (leP a b || leP b a) = true := by
  unfold leP ltPr
  simp only [Bool.or_eq_true, decide_eq_true_eq]
  omega
theorem leP_anti {a b : Int × Int} (h1 : ¬ ltPr b a) (h2 : ¬ ltPr a b) : a = b := by
  obtain ⟨a1, a2⟩ := a
  obtain ⟨b1, b2⟩ := b
  unfold ltPr at *
  simp only [Prod.mk.injEq]
  simp only at h1 h2
  omega
theorem sus_unique {xs ys : List (Int × Int)} (hp : ys.Perm xs) (hs : ys.Pairwise (fun a b => ¬ ltPr b a)) : ys = xs.mergeSort leP := by
  have h1 : (xs.mergeSort leP).Pairwise (fun a b => ¬ ltPr b a) := by
    have := List.pairwise_mergeSort (le := leP) leP_trans leP_total xs
    refine this.imp (fun {a b} h => ?_)
    unfold leP at h
    exact of_decide_eq_true h
  exact List.Perm.eq_of_pairwise (le := fun a b : Int × Int => ¬ ltPr b a) (fun a b _ _ h3 h4 => leP_anti h3 h4) hs h1 (hp.trans (List.mergeSort_perm xs leP).symm)
end Go.Proofs.YtccmchmemafjdaaGreatDoor
set_option linter.unusedSimpArgs false
set_option linter.unusedVariables false
namespace Go.Proofs.YtccmchmemafjdaaGreatDoor
open Go.RowKit

theorem last5P {a1 a2 a3 a4 z : Prop} (h : a1 ∧ a2 ∧ a3 ∧ a4 ∧ z) : z := h.2.2.2.2
/-- The pairs of a group whose first stands before place i, and those of place i with the first j behind it. -/
def susI (ls : List Lst) (z : List Int) (i : Nat) : List (Int × Int) := (List.range i).flatMap (fun t => susA ls (z.getD t 0) (z.drop t))
theorem susI_snoc (ls : List Lst) (z : List Int) (i : Nat) : susI ls z (i + 1) = susI ls z i ++ susA ls (z.getD i 0) (z.drop i) := by
  unfold susI; rw [List.range_succ, List.flatMap_append]; simp
theorem susZ_eq (ls : List Lst) : ∀ (z : List Int), susZ ls z = susI ls z z.length
  | [] => rfl
  | a :: r => by
    have ih := susZ_eq ls r
    show susA ls a (a :: r) ++ susZ ls r = _
    rw [ih]
    unfold susI
    rw [List.length_cons, List.range_succ_eq_map, List.flatMap_cons, List.flatMap_map]
    rfl
theorem susA_snoc {ls : List Lst} {a b : Int} {zs : List Int} {j : Nat} (h : zs[j]? = some b) : susA ls a (zs.take (j + 1)) = susA ls a (zs.take j) ++ (if twiceI ls a b then [(a, b)] else []) := by
  unfold susA
  rw [take_snocS h, List.filter_append, List.map_append]
  congr 1
  by_cases e : twiceI ls a b = true
  · simp [e]
  · simp [e]
theorem susRaw_snoc {ls : List Lst} {k : Nat} {z : List Int} (h : (grpsL ls)[k]? = some z) : ((grpsL ls).take (k + 1)).flatMap (susZ ls) = ((grpsL ls).take k).flatMap (susZ ls) ++ susZ ls z := by
  rw [take_snocS h]; simp
theorem susA_len (ls : List Lst) (a : Int) (zs : List Int) : (susA ls a zs).length ≤ zs.length := by
  unfold susA; rw [List.length_map]; exact List.length_filter_le _ _
end Go.Proofs.YtccmchmemafjdaaGreatDoor
