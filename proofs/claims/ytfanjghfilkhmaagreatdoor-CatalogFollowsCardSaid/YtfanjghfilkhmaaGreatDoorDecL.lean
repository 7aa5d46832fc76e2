/- Plain law: the reference's text of a natural is its decimal numeral. -/
import Derived.Test.YtfanjghfilkhmaaGreatDoorDec
import Derived.Lib.ItoaNum
set_option linter.unusedSimpArgs false
namespace Go.Proofs.YtfanjghfilkhmaaGreatDoor
open Go.Lib

def strip (l : List UInt8) : List UInt8 := l.dropWhile (· == 48)
theorem strip_append (a b : List UInt8) : strip (a ++ b) = if strip a = [] then strip b else strip a ++ b := by
  induction a with
  | nil => simp [strip]
  | cons x a ih =>
    by_cases h : x = 48
    · subst h
      rw [List.cons_append, show strip (48 :: (a ++ b)) = strip (a ++ b) from rfl, show strip (48 :: a) = strip a from rfl]
      exact ih
    · simp [strip, h]
theorem dig_eq (d : Nat) : UInt8.ofNat (48 + d) = 48 + UInt8.ofNat d := by
  apply UInt8.toNat_inj.1
  simp [UInt8.toNat_ofNat']
theorem pd_snoc (k x : Nat) : pd (k + 1) x = pd k (x / 10) ++ [48 + UInt8.ofNat (x % 10)] := by
  induction k generalizing x with
  | zero => simp [pd]
  | succ k ih =>
    rw [pd, ih]
    show _ :: (pd k (x / 10) ++ _) = (_ :: pd k (x / 10)) ++ _
    rw [Nat.div_div_eq_div_mul, Nat.pow_succ, Nat.mul_comm (10 ^ k) 10]
    rfl
theorem decDigits_ne (u : Nat) : decDigits u ≠ [] := by
  rw [decDigits]; split <;> simp
theorem dig_ne {d : Nat} (h : d < 10) (h0 : d ≠ 0) : (48 + UInt8.ofNat d : UInt8) ≠ 48 := by
  intro e
  have e := congrArg UInt8.toNat e
  rw [← dig_eq, UInt8.toNat_ofNat'] at e
  have : (48 + d) % 2 ^ 8 = 48 + d := Nat.mod_eq_of_lt (by omega)
  rw [this] at e
  have h48 : (48 : UInt8).toNat = 48 := rfl
  omega
theorem strip_pd : ∀ (k x : Nat), x < 10 ^ k → strip (pd k x) = if x = 0 then [] else decDigits x
  | 0, x, h => by
    have : x = 0 := by simpa using h
    subst this; rfl
  | k + 1, x, h => by
    rw [pd_snoc, strip_append, strip_pd k (x / 10) (by rw [Nat.pow_succ] at h; omega)]
    by_cases h10 : x < 10
    · have h0 : x / 10 = 0 := by omega
      rw [h0]
      simp only [if_true]
      have hm : x % 10 = x := by omega
      rw [hm]
      by_cases hx : x = 0
      · subst hx; rfl
      · rw [if_neg hx, decDigits, dif_pos h10, dig_eq]
        have := dig_ne h10 hx
        simp [strip, this]
    · have h0 : ¬ x / 10 = 0 := by omega
      have hx : ¬ x = 0 := by omega
      rw [if_neg h0, if_neg (decDigits_ne _), if_neg hx]
      conv => rhs; rw [decDigits]
      rw [dif_neg h10, dig_eq]
theorem pd_mod (m x : Nat) : ∀ k, k ≤ m → pd k (x % 10 ^ m) = pd k x
  | 0, _ => rfl
  | k + 1, h => by
    rw [pd, pd, pd_mod m x k (by omega)]
    have e : 10 ^ m = 10 ^ k * (10 * 10 ^ (m - k - 1)) := by
      rw [← Nat.mul_assoc, ← Nat.pow_succ, ← Nat.pow_add]
      congr 1; omega
    have hd : x % 10 ^ m / 10 ^ k % 10 = x / 10 ^ k % 10 := by
      rw [e, Nat.mod_mul_right_div_self, Nat.mod_mul_right_mod]
    rw [hd]
theorem pd_add (m x : Nat) : ∀ k, pd (k + m) x = pd k (x / 10 ^ m) ++ pd m (x % 10 ^ m)
  | 0 => by rw [Nat.zero_add, pd_mod m x m (Nat.le_refl _)]; rfl
  | k + 1 => by
    rw [show k + 1 + m = (k + m) + 1 from by omega, pd, pd_add m x k, pd, Nat.div_div_eq_div_mul, ← Nat.pow_add, Nat.add_comm m k]
    rfl
theorem strip_zero (k : Nat) : strip (pd k 0) = [] := by
  rw [strip_pd k 0 (Nat.pow_pos (by omega))]; rfl
theorem strip_digs0 (xs : List Int) : strip (digs (xs ++ [0])) = strip (digs xs) := by
  have := digs_snoc xs 0
  rw [show ((0 : Nat) : Int) = 0 from rfl] at this
  rw [this, strip_append, strip_zero, if_pos rfl]
theorem strip_trim_rev : ∀ (ys : List Int), strip (digs ((ys.dropWhile (· == 0)).reverse)) = strip (digs ys.reverse)
  | [] => rfl
  | y :: ys => by
    by_cases h : y = 0
    · subst h
      rw [List.dropWhile_cons_of_pos rfl, strip_trim_rev ys, List.reverse_cons, strip_digs0]
    · rw [List.dropWhile_cons_of_neg (by simpa using h)]
theorem strip_trim (xs : List Int) : strip (digs (trim xs)) = strip (digs xs) := by
  unfold trim
  rw [strip_trim_rev, List.reverse_reverse]

/-- THE LAW: the text of Of n is the numeral of n. -/
theorem natText_of (n : Nat) (h : n < 18446744073709551616) : natText (trim [((n % 1000000000 : Nat) : Int), ((n / 1000000000 % 1000000000 : Nat) : Int), ((n / 1000000000 / 1000000000 : Nat) : Int)]) = decDigits n := by
  have hs : strip (digs (trim (trim [((n % 1000000000 : Nat) : Int), ((n / 1000000000 % 1000000000 : Nat) : Int), ((n / 1000000000 / 1000000000 : Nat) : Int)]))) = if n = 0 then [] else decDigits n := by
    rw [strip_trim, strip_trim, ← strip_pd 27 n (Nat.lt_trans h (by decide)), pd_add 9 n 18, pd_add 9 (n / 10 ^ 9) 9]
    simp only [digs, Int.toNat_natCast]
    have hq : n / 10 ^ 9 / 10 ^ 9 = n / 1000000000 / 1000000000 := rfl
    rw [hq]
    congr 1
  show (if (strip (digs (trim _))).isEmpty then [48] else strip (digs (trim _))) = _
  rw [hs]
  by_cases h0 : n = 0
  · subst h0; rw [decDigits]; rfl
  · rw [if_neg h0, if_neg (by simpa using decDigits_ne n)]
end Go.Proofs.YtfanjghfilkhmaaGreatDoor
