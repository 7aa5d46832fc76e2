/- Next of the program and of the reference, in plain words (chapter 47). -/
import Derived.Test.YtfanjghfilkhmaaGreatDoorEh
set_option linter.unusedSimpArgs false
set_option linter.unusedVariables false
namespace Go.Proofs.YtfanjghfilkhmaaGreatDoor

/-- The next edition, with a code: bad arguments, full, out of range (the three codes are given at the walk). -/
def nextE (cArg cFull cRange : Int) (e : Ed) (l : List Int) : Ed × Int :=
  if validE e ∧ okList l 9999 then
    (if (retE e l).length ≤ 64 then (if (newEnts e l (topE e)).2 ≤ 999 then (nextOf e l, 0) else (edZero, cRange)) else (edZero, cFull))
  else (edZero, cArg)
theorem nextE_ok {cArg cFull cRange : Int} {e : Ed} {l : List Int} (h : NextOk e l) : nextE cArg cFull cRange e l = (nextOf e l, 0) := by
  unfold nextE
  rw [if_pos ⟨h.valid, h.keys⟩, if_pos h.room, if_pos h.range]
theorem nextE_not {cArg cFull cRange : Int} (h1 : cArg ≠ 0) (h2 : cFull ≠ 0) (h3 : cRange ≠ 0) {e : Ed} {l : List Int} : (nextE cArg cFull cRange e l).2 = 0 ↔ NextOk e l := by
  constructor
  · intro h
    unfold nextE at h
    by_cases hv : validE e ∧ okList l 9999
    · rw [if_pos hv] at h
      by_cases hr : (retE e l).length ≤ 64
      · rw [if_pos hr] at h
        by_cases hn : (newEnts e l (topE e)).2 ≤ 999
        · exact ⟨hv.1, hv.2, hr, hn⟩
        · rw [if_neg hn] at h; exact absurd h h3
      · rw [if_neg hr] at h; exact absurd h h2
    · rw [if_neg hv] at h; exact absurd h h1
  · intro h; rw [nextE_ok h]
theorem nextE_zero {cArg cFull cRange : Int} {e : Ed} {l : List Int} (h : ¬ NextOk e l) : (nextE cArg cFull cRange e l).1 = edZero := by
  unfold nextE
  by_cases hv : validE e ∧ okList l 9999
  · rw [if_pos hv]
    by_cases hr : (retE e l).length ≤ 64
    · rw [if_pos hr]
      by_cases hn : (newEnts e l (topE e)).2 ≤ 999
      · exact absurd ⟨hv.1, hv.2, hr, hn⟩ h
      · rw [if_neg hn]
    · rw [if_neg hr]
  · rw [if_neg hv]
/-- The reference's loop over the keys: each number is asked as it comes. -/
def refEnts (e : Ed) : List Int → Int → Option (List (Int × Int))
  | [], _ => some []
  | k :: r, t =>
    if 999 < (if find0 e k = 0 then t + 1 else find0 e k) then none
    else (refEnts e r (if find0 e k = 0 then t + 1 else t)).map (fun o => (k, if find0 e k = 0 then t + 1 else find0 e k) :: o)
theorem refEnts_eq {e : Ed} (h : validE e) : ∀ (l : List Int) (t : Int), 0 ≤ t → t ≤ 999 → refEnts e l t = if (newEnts e l t).2 ≤ 999 then some (newEnts e l t).1 else none
  | [], t, h0, ht => by simp [refEnts, newEnts, ht]
  | k :: r, t, h0, ht => by
    unfold refEnts
    cases hf : findE e k with
    | some n =>
      have hb := own_find h hf
      have hn0 : find0 e k = n := by unfold find0; rw [hf]; rfl
      have hne : ¬ n = 0 := by omega
      have hns : newEnts e (k :: r) t = ((k, n) :: (newEnts e r t).1, (newEnts e r t).2) := by
        conv => lhs; unfold newEnts
        rw [hf]
      rw [hn0, if_neg hne, if_neg hne, if_neg (by omega), refEnts_eq h r t h0 ht, hns]
      simp only
      by_cases hr : (newEnts e r t).2 ≤ 999
      · rw [if_pos hr, if_pos hr]; rfl
      · rw [if_neg hr, if_neg hr]; rfl
    | none =>
      have hn0 : find0 e k = 0 := (find0_zero h k).2 hf
      have hns : newEnts e (k :: r) t = ((k, t + 1) :: (newEnts e r (t + 1)).1, (newEnts e r (t + 1)).2) := by
        conv => lhs; unfold newEnts
        rw [hf]
      rw [if_pos hn0, if_pos hn0, hns]
      simp only
      have hge := newEnts_top e r (t + 1)
      by_cases ht1 : t + 1 ≤ 999
      · rw [if_neg (by omega), refEnts_eq h r (t + 1) (by omega) ht1]
        by_cases hr : (newEnts e r (t + 1)).2 ≤ 999
        · rw [if_pos hr, if_pos hr]; rfl
        · rw [if_neg hr, if_neg hr]; rfl
      · rw [if_pos (by omega), if_neg (by omega)]
end Go.Proofs.YtfanjghfilkhmaaGreatDoor
