/- Walks of the years package and its reference: plain functions on numbers. -/
import Derived.Test.YthbckkjihijekaaDoorProg
import Derived.WalkKit
import Derived.Lib.Hide
set_option linter.unusedSimpArgs false
set_option linter.unusedVariables false
namespace Go.Proofs.YthbckkjihijekaaDoor
open Go.RowKit

def withinB (n : Int) : Bool := decide (-9999 ≤ n) && decide (n ≤ 9999)
def validB (a b : Int) : Bool := decide (a ≤ b) && withinB a && withinB b
theorem withinB_iff (n : Int) : withinB n = true ↔ -9999 ≤ n ∧ n ≤ 9999 := by simp [withinB]
theorem validB_iff (a b : Int) : validB a b = true ↔ a ≤ b ∧ -9999 ≤ a ∧ b ≤ 9999 := by
  simp [validB, withinB]; omega
theorem validB_false (a b : Int) : validB a b = false ↔ ¬ (a ≤ b ∧ -9999 ≤ a ∧ b ≤ 9999) := by
  rw [← validB_iff]; simp
def mx (a b : Int) : Int := if b > a then b else a
def mn (a b : Int) : Int := if b < a then b else a
theorem run_mx {P : Program} (ts : Array TypeId) (t : TypeId) (k k' : IntKind) (x y : Int) (w : World) : (Builtin.max_ ts t #[.int k x, .int k' y]).run P w = .ok (.int k (mx x y)) w := by
  unfold mx; simp [go_sem]
theorem run_mn {P : Program} (ts : Array TypeId) (t : TypeId) (k k' : IntKind) (x y : Int) (w : World) : (Builtin.min_ ts t #[.int k x, .int k' y]).run P w = .ok (.int k (mn x y)) w := by
  unfold mn; simp [go_sem]

theorem within_any (n : Int) (w : World) :
    Calls Tryd.prog 32 #[.int .i64 n] w fun e w' => e = .returned (.bool (withinB n)) ∧ w = w' := by
  go_enter Tryd.func32, Tryd.ntmps32
  go_wp2
  all_goals go_ret
  · have h : -9999 ≤ n := by assumption
    exact ⟨by simp [withinB, h], rfl⟩
  · have h : n < -9999 := by assumption
    exact ⟨by have : ¬ (-9999 ≤ n) := by omega
              simp [withinB, this], rfl⟩

theorem valid_any (a b : Int) (w : World) :
    Calls Tryd.prog 17 #[.agg #[.int .i64 a, .int .i64 b]] w fun e w' => e = .returned (.bool (validB a b)) ∧ w.alloc (.cells #[.int .i64 a, .int .i64 b] 23) = w' := by
  go_enter Tryd.func17, Tryd.ntmps17
  go_wp2_with (go_at_call 32; refine (within_any _ _).mono ?_; rintro e w' ⟨rfl, rfl⟩)
  all_goals go_ret
  · exact ⟨by simp [validB, *], rfl⟩
  · exact ⟨by simp [validB, *], rfl⟩
  · have h : b < a := by assumption
    have : ¬ a ≤ b := by omega
    exact ⟨by simp [validB, this], rfl⟩

theorem length_any (a b : Int) (w : World) :
    Calls Tryd.prog 19 #[.agg #[.int .i64 a, .int .i64 b]] w fun e w' => e = .returned (.int .i64 (if validB a b then b - a + 1 else 0)) ∧ Below w.heap.size w w' := by
  have hv := validB_iff a b
  by_cases h : validB a b = true
  · obtain ⟨h1, h2, h3⟩ := hv.1 h
    clear hv
    go_enter Tryd.func19, Tryd.ntmps19
    go_wp2_with (go_at_call 17; refine (valid_any _ _ _).mono ?_; rintro e w' ⟨rfl, rfl⟩)
    go_ret
    exact ⟨by simp [h], by (repeat (first | exact Below.refl _ _ | assumption | refine Below.alloc ?_ (by first | omega | (simp only [World.size_alloc]; omega) | (simp; done) | (simp; omega)) _ | refine Below.setCell ?_ (by first | omega | (simp only [World.size_alloc]; omega) | (simp; done) | (simp; omega)) _ | refine Below.drew ?_ | refine below_drewN ?_ _))⟩
  · clear hv
    go_enter Tryd.func19, Tryd.ntmps19
    go_wp2_with (go_at_call 17; refine (valid_any _ _ _).mono ?_; rintro e w' ⟨rfl, rfl⟩)
    go_ret
    exact ⟨by simp [h], by (repeat (first | exact Below.refl _ _ | assumption | refine Below.alloc ?_ (by first | omega | (simp only [World.size_alloc]; omega) | (simp; done) | (simp; omega)) _ | refine Below.setCell ?_ (by first | omega | (simp only [World.size_alloc]; omega) | (simp; done) | (simp; omega)) _ | refine Below.drew ?_ | refine below_drewN ?_ _))⟩

def meetV (a b c d : Int) : Value := if validB a b && validB c d && validB (mx a c) (mn b d) then .tuple #[.agg #[.int .i64 (mx a c), .int .i64 (mn b d)], .bool true] else .tuple #[.agg #[.int .i64 0, .int .i64 0], .bool false]
theorem meet_any (a b c d : Int) (w : World) :
    Calls Tryd.prog 13 #[.agg #[.int .i64 a, .int .i64 b], .agg #[.int .i64 c, .int .i64 d]] w fun e w' => e = .returned (meetV a b c d) ∧ Below w.heap.size w w' := by
  have hmx := @run_mx Tryd.prog
  have hmn := @run_mn Tryd.prog
  go_enter Tryd.func13, Tryd.ntmps13
  go_wp2_with (go_at_call 17; refine (valid_any _ _ _).mono ?_; rintro e w' ⟨rfl, rfl⟩)
  all_goals (try simp only [Bool.not_eq_eq_eq_not, Bool.not_true, Bool.not_false] at *)
  all_goals
    refine bodyPost_ret (v := meetV a b c d) (by simp [results, Tryd.results13, go_sem, meetV, *]) rfl ⟨rfl, ?_⟩
    (repeat (first | exact Below.refl _ _ | assumption | refine Below.alloc ?_ (by first | omega | (simp only [World.size_alloc]; omega) | (simp; done) | (simp; omega)) _ | refine Below.setCell ?_ (by first | omega | (simp only [World.size_alloc]; omega) | (simp; done) | (simp; omega)) _ | refine Below.drew ?_ | refine below_drewN ?_ _))

def hullV (a b c d : Int) : Value := if validB a b && validB c d then .tuple #[.agg #[.int .i64 (mn a c), .int .i64 (mx b d)], .int .i64 0] else .tuple #[.agg #[.int .i64 0, .int .i64 0], .int .i64 1]
theorem hull_any (a b c d : Int) (w : World) :
    Calls Tryd.prog 15 #[.agg #[.int .i64 a, .int .i64 b], .agg #[.int .i64 c, .int .i64 d]] w fun e w' => e = .returned (hullV a b c d) ∧ Below w.heap.size w w' := by
  have hmx := @run_mx Tryd.prog
  have hmn := @run_mn Tryd.prog
  go_enter Tryd.func15, Tryd.ntmps15
  go_wp2_with (go_at_call 17; refine (valid_any _ _ _).mono ?_; rintro e w' ⟨rfl, rfl⟩)
  all_goals (try simp only [Bool.not_eq_eq_eq_not, Bool.not_true, Bool.not_false] at *)
  all_goals
    refine bodyPost_ret (v := hullV a b c d) (by simp [results, Tryd.results15, go_sem, hullV, *]) rfl ⟨rfl, ?_⟩
    (repeat (first | exact Below.refl _ _ | assumption | refine Below.alloc ?_ (by first | omega | (simp only [World.size_alloc]; omega) | (simp; done) | (simp; omega)) _ | refine Below.setCell ?_ (by first | omega | (simp only [World.size_alloc]; omega) | (simp; done) | (simp; omega)) _ | refine Below.drew ?_ | refine below_drewN ?_ _))
end Go.Proofs.YthbckkjihijekaaDoor
