/- Walks of the years package and its reference: Grow, Relation, and the reference's functions. -/
import Derived.Test.YthbckkjihijekaaDoorYa
import Derived.BigQuiet
import Derived.Deep.QuietTactic
set_option linter.unusedSimpArgs false
set_option linter.unusedVariables false
namespace Go.Proofs.YthbckkjihijekaaDoor
open Go.RowKit

theorem size_any (n : Int) (w : World) :
    Calls Tryd.prog 49 #[.int .i64 n, .int .i64 9999] w fun e w' => e = .returned (.bool (withinB n)) ∧ w = w' := by
  go_enter Tryd.func49, Tryd.ntmps49
  go_wp2
  all_goals go_ret
  · have h : -9999 ≤ n := by assumption
    exact ⟨by simp [withinB, h], rfl⟩
  · have h : n < -9999 := by assumption
    exact ⟨by have : ¬ (-9999 ≤ n) := by omega
              simp [withinB, this], rfl⟩

theorem baseYears_any (a b : Int) (w : World) :
    Calls Tryd.prog 33 #[.agg #[.int .i64 a, .int .i64 b]] w fun e w' => e = .returned (.bool (validB a b)) ∧ w.alloc (.cells #[.int .i64 a, .int .i64 b] 23) = w' := by
  go_enter Tryd.func33, Tryd.ntmps33
  go_wp2_with (go_at_call 49; refine (size_any _ _).mono ?_; rintro e w' ⟨rfl, rfl⟩)
  all_goals go_ret
  · exact ⟨by simp [validB, *], rfl⟩
  · exact ⟨by simp [validB, *], rfl⟩
  · have h : b < a := by assumption
    have : ¬ a ≤ b := by omega
    exact ⟨by simp [validB, this], rfl⟩

theorem rvalid_any (a b : Int) (w : World) :
    Calls Tryd.prog 18 #[.agg #[.int .i64 a, .int .i64 b]] w fun e w' => e = .returned (.bool (validB a b)) ∧ (w.alloc (.cells #[.int .i64 a, .int .i64 b] 23)).alloc (.cells #[.int .i64 a, .int .i64 b] 23) = w' := by
  go_enter Tryd.func18, Tryd.ntmps18
  go_wp2_with (go_at_call 33; refine (baseYears_any _ _ _).mono ?_; rintro e w' ⟨rfl, rfl⟩)
  go_ret
  exact ⟨rfl, rfl⟩

theorem rlength_any (a b : Int) (w : World) :
    Calls Tryd.prog 20 #[.agg #[.int .i64 a, .int .i64 b]] w fun e w' => e = .returned (.int .i64 (if validB a b then b - a + 1 else 0)) ∧ Below w.heap.size w w' := by
  have hv := validB_iff a b
  by_cases h : validB a b = true
  · obtain ⟨h1, h2, h3⟩ := hv.1 h
    clear hv
    go_enter Tryd.func20, Tryd.ntmps20
    go_wp2_with (go_at_call 18; refine (rvalid_any _ _ _).mono ?_; rintro e w' ⟨rfl, rfl⟩)
    go_ret
    exact ⟨by simp [h], by (repeat (first | exact Below.refl _ _ | assumption | refine Below.alloc ?_ (by first | omega | (simp only [World.size_alloc]; omega) | (simp; done) | (simp; omega)) _ | refine Below.setCell ?_ (by first | omega | (simp only [World.size_alloc]; omega) | (simp; done) | (simp; omega)) _ | refine Below.drew ?_ | refine below_drewN ?_ _))⟩
  · clear hv
    go_enter Tryd.func20, Tryd.ntmps20
    go_wp2_with (go_at_call 18; refine (rvalid_any _ _ _).mono ?_; rintro e w' ⟨rfl, rfl⟩)
    go_ret
    exact ⟨by simp [h], by (repeat (first | exact Below.refl _ _ | assumption | refine Below.alloc ?_ (by first | omega | (simp only [World.size_alloc]; omega) | (simp; done) | (simp; omega)) _ | refine Below.setCell ?_ (by first | omega | (simp only [World.size_alloc]; omega) | (simp; done) | (simp; omega)) _ | refine Below.drew ?_ | refine below_drewN ?_ _))⟩

def rmeetV (a b c d : Int) : Value := if validB a b && validB c d && !decide (mn b d < mx a c) then .tuple #[.agg #[.int .i64 (mx a c), .int .i64 (mn b d)], .bool true] else .tuple #[.agg #[.int .i64 0, .int .i64 0], .bool false]
theorem rmeet_any (a b c d : Int) (w : World) :
    Calls Tryd.prog 14 #[.agg #[.int .i64 a, .int .i64 b], .agg #[.int .i64 c, .int .i64 d]] w fun e w' => e = .returned (rmeetV a b c d) ∧ Below w.heap.size w w' := by
  have hmx := @run_mx Tryd.prog
  have hmn := @run_mn Tryd.prog
  go_enter Tryd.func14, Tryd.ntmps14
  go_wp2_with (go_at_call 18; refine (rvalid_any _ _ _).mono ?_; rintro e w' ⟨rfl, rfl⟩)
  all_goals (try simp only [Bool.not_eq_eq_eq_not, Bool.not_true, Bool.not_false] at *)
  all_goals
    refine bodyPost_ret (v := rmeetV a b c d) (by simp [results, Tryd.results14, go_sem, rmeetV, *]; try omega) rfl ⟨rfl, ?_⟩
    (repeat (first | exact Below.refl _ _ | assumption | refine Below.alloc ?_ (by first | omega | (simp only [World.size_alloc]; omega) | (simp; done) | (simp; omega)) _ | refine Below.setCell ?_ (by first | omega | (simp only [World.size_alloc]; omega) | (simp; done) | (simp; omega)) _ | refine Below.drew ?_ | refine below_drewN ?_ _))

theorem rhull_any (a b c d : Int) (w : World) :
    Calls Tryd.prog 16 #[.agg #[.int .i64 a, .int .i64 b], .agg #[.int .i64 c, .int .i64 d]] w fun e w' => e = .returned (hullV a b c d) ∧ Below w.heap.size w w' := by
  have hmx := @run_mx Tryd.prog
  have hmn := @run_mn Tryd.prog
  go_enter Tryd.func16, Tryd.ntmps16
  go_wp2_with (go_at_call 18; refine (rvalid_any _ _ _).mono ?_; rintro e w' ⟨rfl, rfl⟩)
  all_goals (try simp only [Bool.not_eq_eq_eq_not, Bool.not_true, Bool.not_false] at *)
  all_goals
    refine bodyPost_ret (v := hullV a b c d) (by simp [results, Tryd.results16, go_sem, hullV, *]) rfl ⟨rfl, ?_⟩
    (repeat (first | exact Below.refl _ _ | assumption | refine Below.alloc ?_ (by first | omega | (simp only [World.size_alloc]; omega) | (simp; done) | (simp; omega)) _ | refine Below.setCell ?_ (by first | omega | (simp only [World.size_alloc]; omega) | (simp; done) | (simp; omega)) _ | refine Below.drew ?_ | refine below_drewN ?_ _))

def growV (a b n : Int) : Value := if validB a b then (if decide (n < 0) || decide (19998 < n) then .tuple #[.agg #[.int .i64 0, .int .i64 0], .int .i64 2] else if validB (a - n) (b + n) then .tuple #[.agg #[.int .i64 (a - n), .int .i64 (b + n)], .int .i64 0] else .tuple #[.agg #[.int .i64 0, .int .i64 0], .int .i64 2]) else .tuple #[.agg #[.int .i64 0, .int .i64 0], .int .i64 1]
def rgrowV (a b n : Int) : Value := if validB a b then (if decide (n < 0) || decide (20000 < n) then .tuple #[.agg #[.int .i64 0, .int .i64 0], .int .i64 2] else if validB (a - n) (b + n) then .tuple #[.agg #[.int .i64 (a - n), .int .i64 (b + n)], .int .i64 0] else .tuple #[.agg #[.int .i64 0, .int .i64 0], .int .i64 2]) else .tuple #[.agg #[.int .i64 0, .int .i64 0], .int .i64 1]
theorem grow_any (a b n : Int) (w : World) :
    Calls Tryd.prog 27 #[.agg #[.int .i64 a, .int .i64 b], .int .i64 n] w fun e w' => e = .returned (growV a b n) ∧ Below w.heap.size w w' := by
  by_cases h : validB a b = true
  · obtain ⟨h1, h2, h3⟩ := (validB_iff a b).1 h
    by_cases hn : n < 0
    · go_enter Tryd.func27, Tryd.ntmps27
      go_wp2_with (go_at_call 17; refine (valid_any _ _ _).mono ?_; rintro e w' ⟨rfl, rfl⟩)
      refine bodyPost_ret (v := growV a b n) (by simp [results, Tryd.results27, go_sem, growV, h, hn]) rfl ⟨rfl, by (repeat (first | exact Below.refl _ _ | assumption | refine Below.alloc ?_ (by first | omega | (simp only [World.size_alloc]; omega) | (simp; done) | (simp; omega)) _ | refine Below.setCell ?_ (by first | omega | (simp only [World.size_alloc]; omega) | (simp; done) | (simp; omega)) _ | refine Below.drew ?_ | refine below_drewN ?_ _))⟩
    · by_cases hm : 19998 < n
      · go_enter Tryd.func27, Tryd.ntmps27
        go_wp2_with (go_at_call 17; refine (valid_any _ _ _).mono ?_; rintro e w' ⟨rfl, rfl⟩)
        refine bodyPost_ret (v := growV a b n) (by simp [results, Tryd.results27, go_sem, growV, h, hn, hm]) rfl ⟨rfl, by (repeat (first | exact Below.refl _ _ | assumption | refine Below.alloc ?_ (by first | omega | (simp only [World.size_alloc]; omega) | (simp; done) | (simp; omega)) _ | refine Below.setCell ?_ (by first | omega | (simp only [World.size_alloc]; omega) | (simp; done) | (simp; omega)) _ | refine Below.drew ?_ | refine below_drewN ?_ _))⟩
      · go_enter Tryd.func27, Tryd.ntmps27
        go_wp2_with (go_at_call 17; refine (valid_any _ _ _).mono ?_; rintro e w' ⟨rfl, rfl⟩)
        all_goals (try simp only [Bool.not_eq_eq_eq_not, Bool.not_true, Bool.not_false] at *)
        all_goals refine bodyPost_ret (v := growV a b n) (by simp [results, Tryd.results27, go_sem, growV, *]) rfl ⟨rfl, by (repeat (first | exact Below.refl _ _ | assumption | refine Below.alloc ?_ (by first | omega | (simp only [World.size_alloc]; omega) | (simp; done) | (simp; omega)) _ | refine Below.setCell ?_ (by first | omega | (simp only [World.size_alloc]; omega) | (simp; done) | (simp; omega)) _ | refine Below.drew ?_ | refine below_drewN ?_ _))⟩
  · go_enter Tryd.func27, Tryd.ntmps27
    go_wp2_with (go_at_call 17; refine (valid_any _ _ _).mono ?_; rintro e w' ⟨rfl, rfl⟩)
    refine bodyPost_ret (v := growV a b n) (by simp [results, Tryd.results27, go_sem, growV, h]) rfl ⟨rfl, by (repeat (first | exact Below.refl _ _ | assumption | refine Below.alloc ?_ (by first | omega | (simp only [World.size_alloc]; omega) | (simp; done) | (simp; omega)) _ | refine Below.setCell ?_ (by first | omega | (simp only [World.size_alloc]; omega) | (simp; done) | (simp; omega)) _ | refine Below.drew ?_ | refine below_drewN ?_ _))⟩
theorem rgrow_any (a b n : Int) (w : World) :
    Calls Tryd.prog 28 #[.agg #[.int .i64 a, .int .i64 b], .int .i64 n] w fun e w' => e = .returned (rgrowV a b n) ∧ Below w.heap.size w w' := by
  by_cases h : validB a b = true
  · obtain ⟨h1, h2, h3⟩ := (validB_iff a b).1 h
    by_cases hn : n < 0
    · go_enter Tryd.func28, Tryd.ntmps28
      go_wp2_with (go_at_call 18; refine (rvalid_any _ _ _).mono ?_; rintro e w' ⟨rfl, rfl⟩)
      refine bodyPost_ret (v := rgrowV a b n) (by simp [results, Tryd.results28, go_sem, rgrowV, h, hn]) rfl ⟨rfl, by (repeat (first | exact Below.refl _ _ | assumption | refine Below.alloc ?_ (by first | omega | (simp only [World.size_alloc]; omega) | (simp; done) | (simp; omega)) _ | refine Below.setCell ?_ (by first | omega | (simp only [World.size_alloc]; omega) | (simp; done) | (simp; omega)) _ | refine Below.drew ?_ | refine below_drewN ?_ _))⟩
    · by_cases hm : 20000 < n
      · go_enter Tryd.func28, Tryd.ntmps28
        go_wp2_with (go_at_call 18; refine (rvalid_any _ _ _).mono ?_; rintro e w' ⟨rfl, rfl⟩)
        refine bodyPost_ret (v := rgrowV a b n) (by simp [results, Tryd.results28, go_sem, rgrowV, h, hn, hm]) rfl ⟨rfl, by (repeat (first | exact Below.refl _ _ | assumption | refine Below.alloc ?_ (by first | omega | (simp only [World.size_alloc]; omega) | (simp; done) | (simp; omega)) _ | refine Below.setCell ?_ (by first | omega | (simp only [World.size_alloc]; omega) | (simp; done) | (simp; omega)) _ | refine Below.drew ?_ | refine below_drewN ?_ _))⟩
      · go_enter Tryd.func28, Tryd.ntmps28
        go_wp2_with (go_at_call 18; refine (rvalid_any _ _ _).mono ?_; rintro e w' ⟨rfl, rfl⟩)
        all_goals (try simp only [Bool.not_eq_eq_eq_not, Bool.not_true, Bool.not_false] at *)
        all_goals have hx : ¬ (n < 0 ∨ 20000 < n) := by omega
        all_goals (try simp only [hx, false_or, not_or, not_false_eq_true, true_and] at *)
        all_goals refine bodyPost_ret (v := rgrowV a b n) (by simp [results, Tryd.results28, go_sem, rgrowV, *]) rfl ⟨rfl, by (repeat (first | exact Below.refl _ _ | assumption | refine Below.alloc ?_ (by first | omega | (simp only [World.size_alloc]; omega) | (simp; done) | (simp; omega)) _ | refine Below.setCell ?_ (by first | omega | (simp only [World.size_alloc]; omega) | (simp; done) | (simp; omega)) _ | refine Below.drew ?_ | refine below_drewN ?_ _))⟩
  · go_enter Tryd.func28, Tryd.ntmps28
    go_wp2_with (go_at_call 18; refine (rvalid_any _ _ _).mono ?_; rintro e w' ⟨rfl, rfl⟩)
    refine bodyPost_ret (v := rgrowV a b n) (by simp [results, Tryd.results28, go_sem, rgrowV, h]) rfl ⟨rfl, by (repeat (first | exact Below.refl _ _ | assumption | refine Below.alloc ?_ (by first | omega | (simp only [World.size_alloc]; omega) | (simp; done) | (simp; omega)) _ | refine Below.setCell ?_ (by first | omega | (simp only [World.size_alloc]; omega) | (simp; done) | (simp; omega)) _ | refine Below.drew ?_ | refine below_drewN ?_ _))⟩
end Go.Proofs.YthbckkjihijekaaDoor
