/- The lines of a text, one after the other, as strings.Lines hands them over (plain words). -/
import Derived.Test.YtfanjghfilkhmaaGreatDoorEe
set_option linter.unusedSimpArgs false
set_option linter.unusedVariables false
namespace Go.Proofs.YtfanjghfilkhmaaGreatDoor

/-- The lines with their ends. -/
def linesT (s : List UInt8) : List (List UInt8) := (wordsL 10 s).dropLast.map (fun l => l ++ [10]) ++ (if (wordsL 10 s).getLastD [] = [] then [] else [(wordsL 10 s).getLastD []])
theorem linesT_nil : linesT [] = [] := rfl
theorem getLastD_cons_ne {α : Type} {x : α} {l : List α} (h : l ≠ []) (d : α) : (x :: l).getLastD d = l.getLastD d := by
  cases l with
  | nil => exact absurd rfl h
  | cons y l => rfl
theorem linesT_cut (d r : List UInt8) (h : (10 : UInt8) ∉ d) : linesT (d ++ 10 :: r) = (d ++ [10]) :: linesT r := by
  have hn := wordsL_ne 10 r
  unfold linesT
  rw [wordsL_cut 10 d r h, getLastD_cons_ne hn, List.dropLast_cons_of_ne_nil hn]
  rfl
theorem linesT_last {r : List UInt8} (h : (10 : UInt8) ∉ r) (hr : r ≠ []) : linesT r = [r] := by
  unfold linesT
  rw [wordsL_none 10 r h]
  simp [hr]
theorem trim_end (d : List UInt8) : Lib.trimSuffix (d ++ [10]) [10] = d := by
  unfold Lib.trimSuffix Lib.hasSuffix
  have h : ([10] : List UInt8).isSuffixOf (d ++ [10]) = true := by simp
  rw [if_pos h]
  simp
theorem trim_none {d : List UInt8} (h : (10 : UInt8) ∉ d) : Lib.trimSuffix d [10] = d := by
  unfold Lib.trimSuffix Lib.hasSuffix
  have h2 : ([10] : List UInt8).isSuffixOf d = false := by
    cases hs : ([10] : List UInt8).isSuffixOf d with
    | false => rfl
    | true =>
      obtain ⟨t, ht⟩ := List.isSuffixOf_iff_suffix.1 hs
      exact absurd (ht ▸ by simp) h
  rw [if_neg (by rw [h2]; decide)]
/-- Without their ends: the lines. -/
theorem linesT_trim : ∀ (n : Nat) (s : List UInt8), s.length ≤ n → (linesT s).map (fun l => Lib.trimSuffix l [10]) = lnsL s
  | 0, s, h => by
    have : s = [] := List.eq_nil_of_length_eq_zero (by omega)
    subst this; rfl
  | n + 1, s, h => by
    rcases first_split 10 s with h' | ⟨d, r, rfl, hd⟩
    · by_cases hs : s = []
      · subst hs; rfl
      · rw [linesT_last h' hs]
        unfold lnsL
        rw [wordsL_none 10 s h', if_neg (by simpa using hs)]
        simp [trim_none h']
    · have ih := linesT_trim n r (by simp at h; omega)
      rw [linesT_cut d r hd, List.map_cons, trim_end, ih]
      have hn := wordsL_ne 10 r
      unfold lnsL
      rw [wordsL_cut 10 d r hd]
      have hg : (d :: wordsL 10 r).getLast? = (wordsL 10 r).getLast? := by
        cases hw : wordsL 10 r with
        | nil => exact absurd hw hn
        | cons y l => rfl
      rw [hg, List.dropLast_cons_of_ne_nil hn]
      split <;> rfl
end Go.Proofs.YtfanjghfilkhmaaGreatDoor
