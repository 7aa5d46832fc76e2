/- Walks of Relation. -/
import Derived.Test.YthbckkjihijekaaDoorYb
import Derived.WalkSmall
import Derived.Test.YthbckkjihijekaaDoorBase
set_option linter.unusedSimpArgs false
set_option linter.unusedVariables false
namespace Go.Proofs.YthbckkjihijekaaDoor
open Go.RowKit

def cmpI (a b : Int) : Int := if a < b then -1 else if a = b then 0 else 1
theorem isNaN_any (a : Int) (w : World) :
    Calls Tryd.prog 56 #[.int .i64 a] w fun e w' => e = .returned (.bool false) ∧ w = w' := by
  go_enter Tryd.func56, Tryd.ntmps56
  go_wp2
  go_ret
  exact ⟨by simp, rfl⟩
theorem compare_any (a b : Int) (w : World) :
    Calls Tryd.prog 41 #[.int .i64 a, .int .i64 b] w fun e w' => e = .returned (.int .i64 (cmpI a b)) ∧ w' = w := by
  rcases Int.lt_trichotomy a b with h | h | h
  · go_enter Tryd.func41, Tryd.ntmps41
    go_wp2_with (go_at_call 56; refine (isNaN_any _ _).mono ?_; rintro e w' ⟨rfl, rfl⟩)
    all_goals go_ret
    all_goals exact ⟨by simp [cmpI, h], rfl⟩
  · subst h
    go_enter Tryd.func41, Tryd.ntmps41
    go_wp2_with (go_at_call 56; refine (isNaN_any _ _).mono ?_; rintro e w' ⟨rfl, rfl⟩)
    all_goals go_ret
    all_goals exact ⟨by simp [cmpI], rfl⟩
  · have h' : ¬ a < b := by omega
    have h'' : ¬ a = b := by omega
    go_enter Tryd.func41, Tryd.ntmps41
    go_wp2_with (go_at_call 56; refine (isNaN_any _ _).mono ?_; rintro e w' ⟨rfl, rfl⟩)
    all_goals go_ret
    all_goals exact ⟨by simp [cmpI, h', h''], rfl⟩

def relI (a b c d : Int) : Int :=
  if b + 1 < c then 1 else if b + 1 = c then 2 else if d + 1 < a then 13 else if d + 1 = a then 12 else
  if cmpI a c = 0 ∧ cmpI b d = 0 then 7 else if cmpI a c = 0 ∧ cmpI b d < 0 then 4 else if cmpI a c = 0 then 10 else
  if cmpI b d = 0 ∧ 0 < cmpI a c then 6 else if cmpI b d = 0 then 8 else if 0 < cmpI a c ∧ cmpI b d < 0 then 5 else if cmpI a c < 0 ∧ 0 < cmpI b d then 9 else if cmpI a c < 0 then 3 else 11
def relV (a b c d : Int) : Int := if validB a b && validB c d then relI a b c d else 0
theorem cmpI_cases (a b : Int) : (a < b ∧ cmpI a b = -1) ∨ (a = b ∧ cmpI a b = 0) ∨ (b < a ∧ cmpI a b = 1) := by
  unfold cmpI; split
  · left; omega
  · split
    · right; left; omega
    · right; right; omega
set_option maxHeartbeats 1000000 in
theorem relation_any (a b c d : Int) (w : World) :
    Calls Tryd.prog 25 #[.agg #[.int .i64 a, .int .i64 b], .agg #[.int .i64 c, .int .i64 d]] w fun e w' => e = .returned (.int .i64 (relV a b c d)) ∧ Below w.heap.size w w' := by
  by_cases hv : validB a b = true
  · by_cases h' : validB c d = true
    · obtain ⟨h1, h2, h3⟩ := (validB_iff a b).1 hv
      obtain ⟨h4, h5, h6⟩ := (validB_iff c d).1 h'
      generalize hx : cmpI a c = x
      generalize hy : cmpI b d = y
      have HX := Lib.hid hx; clear hx
      have HY := Lib.hid hy; clear hy
      go_enter Tryd.func25, Tryd.ntmps25
      go_wp2_with (go_at_call 17; refine (valid_any _ _ _).mono ?_; rintro e w' ⟨rfl, rfl⟩)
      go_quiet ((go_at_call 41; exact Calls.quiet_of_same (compare_any _ _ _)))
      go_wp2
      all_goals clear HX HY
      all_goals go_ret
      all_goals (try simp only [beq_iff_eq, beq_eq_false_iff_ne, ne_eq] at *)
      all_goals refine ⟨ret_int ?_, by (repeat (first | exact Below.refl _ _ | assumption | refine Below.alloc ?_ (by first | omega | (simp only [World.size_alloc]; omega) | (simp; done) | (simp; omega)) _ | refine Below.setCell ?_ (by first | omega | (simp only [World.size_alloc]; omega) | (simp; done) | (simp; omega)) _ | refine Below.drew ?_ | refine below_drewN ?_ _))⟩
      all_goals (unfold relV; rw [if_pos (by simp [hv, h'])]; unfold relI; (repeat' split) <;> omega)
    · go_enter Tryd.func25, Tryd.ntmps25
      go_wp2_with (go_at_call 17; refine (valid_any _ _ _).mono ?_; rintro e w' ⟨rfl, rfl⟩)
      go_ret
      exact ⟨by simp [relV, h'], by (repeat (first | exact Below.refl _ _ | assumption | refine Below.alloc ?_ (by first | omega | (simp only [World.size_alloc]; omega) | (simp; done) | (simp; omega)) _ | refine Below.setCell ?_ (by first | omega | (simp only [World.size_alloc]; omega) | (simp; done) | (simp; omega)) _ | refine Below.drew ?_ | refine below_drewN ?_ _))⟩
  · go_enter Tryd.func25, Tryd.ntmps25
    go_wp2_with (go_at_call 17; refine (valid_any _ _ _).mono ?_; rintro e w' ⟨rfl, rfl⟩)
    go_ret
    exact ⟨by simp [relV, hv], by (repeat (first | exact Below.refl _ _ | assumption | refine Below.alloc ?_ (by first | omega | (simp only [World.size_alloc]; omega) | (simp; done) | (simp; omega)) _ | refine Below.setCell ?_ (by first | omega | (simp only [World.size_alloc]; omega) | (simp; done) | (simp; omega)) _ | refine Below.drew ?_ | refine below_drewN ?_ _))⟩
end Go.Proofs.YthbckkjihijekaaDoor
