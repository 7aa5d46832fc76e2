/- Reading an edition as the reference does, in plain words (chapter 47). -/
import Derived.Test.YtfanjghfilkhmaaGreatDoorEe
set_option linter.unusedSimpArgs false
set_option linter.unusedVariables false
namespace Go.Proofs.YtfanjghfilkhmaaGreatDoor

def isDigB (c : UInt8) : Bool := decide (48 ≤ c.toNat ∧ c.toNat ≤ 57)
theorem isDigB_iff (c : UInt8) : isDigB c = true ↔ isDig c := by unfold isDigB isDig; simp
def addDig (n : Int) (c : UInt8) : Int := min (10 * n + ((c.toNat : Int) - 48)) 100000
/-- The numbers of a line so far, a byte more; 'pd': the byte before was a digit. -/
def numStep (pd : Bool) (acc : List Int) (c : UInt8) : List Int :=
  if isDigB c then (if pd then acc.dropLast ++ [addDig (acc.getLastD 0) c] else acc ++ [addDig 0 c]) else acc
def numsF : Bool → List Int → List UInt8 → List Int
  | _, acc, [] => acc
  | pd, acc, c :: r => numsF (isDigB c) (numStep pd acc c) r
theorem numsF_append : ∀ (l r : List UInt8) (pd : Bool) (acc : List Int), numsF pd acc (l ++ r) = numsF ((l.getLast?.map isDigB).getD pd) (numsF pd acc l) r
  | [], r, pd, acc => rfl
  | c :: l, r, pd, acc => by
    rw [List.cons_append]
    show numsF (isDigB c) (numStep pd acc c) (l ++ r) = _
    rw [numsF_append l r]
    cases l with
    | nil => rfl
    | cons d l =>
      rw [List.getLast?_cons_cons]
      cases hg : (d :: l).getLast? with
      | none => simp at hg
      | some z => rfl
/-- What the digits of one number make. -/
def digsV : Int → List UInt8 → Int
  | n, [] => n
  | n, c :: r => digsV (addDig n c) r
theorem numsF_digits : ∀ (l : List UInt8) (acc : List Int) (n : Int), (∀ c ∈ l, isDig c) → numsF true (acc ++ [n]) l = acc ++ [digsV n l]
  | [], acc, n, _ => rfl
  | c :: l, acc, n, h => by
    have hc : isDigB c = true := (isDigB_iff c).2 (h c (by simp))
    show numsF (isDigB c) (numStep true (acc ++ [n]) c) l = _
    unfold numStep
    rw [hc, if_pos rfl, if_pos rfl, List.dropLast_concat, List.getLastD_concat, numsF_digits l acc _ (fun d hd => h d (by simp [hd]))]
    rfl
theorem numsF_number {l : List UInt8} (hl : l ≠ []) (h : ∀ c ∈ l, isDig c) (acc : List Int) : numsF false acc l = acc ++ [digsV 0 l] := by
  cases l with
  | nil => exact absurd rfl hl
  | cons c l =>
    have hc : isDigB c = true := (isDigB_iff c).2 (h c (by simp))
    show numsF (isDigB c) (numStep false acc c) l = _
    unfold numStep
    rw [hc, if_pos rfl, if_neg (by decide), numsF_digits l acc _ (fun d hd => h d (by simp [hd]))]
    rfl
theorem digitVal_of {c : UInt8} (h : isDig c) : Lib.digitVal c = some (c.toNat - 48) := by
  unfold isDig at h
  unfold Lib.digitVal
  first | (rw [if_pos (by simpa using h)]) | (simp; omega) | (split <;> simp_all <;> omega)
theorem decFrom_ge' : ∀ (l : List UInt8) (a n : Nat), Lib.decFrom a l = some n → a ≤ n
  | [], a, n, h => by simp [Lib.decFrom] at h; omega
  | c :: l, a, n, h => by
    unfold Lib.decFrom at h
    cases hv : Lib.digitVal c with
    | none => rw [hv] at h; cases h
    | some d => rw [hv] at h; have := decFrom_ge' l _ _ h; omega
theorem digsV_from : ∀ (l : List UInt8) (n u : Nat), (∀ c ∈ l, isDig c) → Lib.decFrom n l = some u → u ≤ 100000 → digsV (n : Int) l = (u : Int)
  | [], n, u, _, hd, _ => by simp [Lib.decFrom] at hd; rw [hd]; rfl
  | c :: l, n, u, h, hd, hu => by
    have hc : 48 ≤ c.toNat ∧ c.toNat ≤ 57 := h c (by simp)
    have h' : Lib.decFrom (10 * n + (c.toNat - 48)) l = some u := by
      rw [Lib.decFrom, digitVal_of (h c (by simp)), Nat.mul_comm] at hd
      exact hd
    have hge := decFrom_ge' l _ _ h'
    show digsV (addDig (n : Int) c) l = _
    have ha : addDig (n : Int) c = ((10 * n + (c.toNat - 48) : Nat) : Int) := by unfold addDig; omega
    rw [ha]
    exact digsV_from l _ u (fun d hd' => h d (by simp [hd'])) h' hu
end Go.Proofs.YtfanjghfilkhmaaGreatDoor
