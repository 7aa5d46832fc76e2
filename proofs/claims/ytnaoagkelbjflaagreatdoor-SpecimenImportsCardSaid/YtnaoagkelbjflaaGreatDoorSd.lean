/- Predicates of labels and specimens: the program's and the base's. -/
import Derived.Test.YtnaoagkelbjflaaGreatDoorProg
import Derived.Test.YtnaoagkelbjflaaGreatDoorBase
import Derived.Test.YtnaoagkelbjflaaGreatDoorSc
set_option linter.unusedSimpArgs false
set_option linter.unusedVariables false
namespace Go.Proofs.YtnaoagkelbjflaaGreatDoor
open Go.RowKit

theorem in_any (n a b : Int) (w : World) :
    Calls Tryz.prog 40 #[.int .i64 n, .int .i64 a, .int .i64 b] w fun e w' => e = .returned (.bool (inR n a b)) ∧ w = w' := by
  go_enter Tryz.func40, Tryz.ntmps40
  go_wp2
  all_goals go_ret
  · exact ⟨by simp [inR, *], rfl⟩
  · exact ⟨by simp [inR]; omega, rfl⟩
theorem bin_any (n a b : Int) (w : World) :
    Calls Tryz.prog 64 #[.int .i64 n, .int .i64 a, .int .i64 b] w fun e w' => e = .returned (.bool (inR n a b)) ∧ w = w' := by
  go_enter Tryz.func64, Tryz.ntmps64
  go_wp2
  all_goals go_ret
  · exact ⟨by simp [inR, *], rfl⟩
  · exact ⟨by simp [inR]; omega, rfl⟩
theorem lnum_any (n : Int) (w : World) :
    Calls Tryz.prog 85 #[.int .i64 n] w fun e w' => e = .returned (.bool (inR n 1 999)) ∧ w = w' := by
  go_enter Tryz.func85, Tryz.ntmps85
  go_wp2
  all_goals go_ret
  · exact ⟨by simp [inR, *], rfl⟩
  · exact ⟨by simp [inR]; omega, rfl⟩
theorem bnum_any (n : Int) (w : World) :
    Calls Tryz.prog 63 #[.int .i64 n] w fun e w' => e = .returned (.bool (inR n 1 999)) ∧ w = w' := by
  go_enter Tryz.func63, Tryz.ntmps63
  go_wp2_with (go_at_call 64; refine (bin_any _ _ _ _).mono ?_; rintro e w' ⟨rfl, rfl⟩)
  go_ret
  exact ⟨rfl, rfl⟩
theorem bid_any (n : Int) (w : World) :
    Calls Tryz.prog 65 #[.int .i64 n] w fun e w' => e = .returned (.bool (inR n 1 9999)) ∧ w = w' := by
  go_enter Tryz.func65, Tryz.ntmps65
  go_wp2_with (go_at_call 64; refine (bin_any _ _ _ _).mono ?_; rintro e w' ⟨rfl, rfl⟩)
  go_ret
  exact ⟨rfl, rfl⟩

theorem lvalid_any (l : Lab) (w : World) :
    Calls Tryz.prog 60 #[.agg #[.int .i64 l.side, .int .i64 l.num, .int .i64 l.st]] w fun e w' => e = .returned (.bool (okLab l)) ∧ w.alloc (.cells #[.int .i64 l.side, .int .i64 l.num, .int .i64 l.st] 55) = w' := by
  have HK := Lib.hid (okLab_iff l)
  go_enter Tryz.func60, Tryz.ntmps60
  go_wp2_with (go_at_call 85; refine (lnum_any _ _).mono ?_; rintro e w' ⟨rfl, rfl⟩)
  all_goals go_ret
  all_goals refine ⟨ret_bool ?_, by first | rfl | simp [*]⟩
  all_goals (rw [Bool.eq_iff_iff, HK.out]; simp [inR] at *; omega)
theorem blabel_any (l : Lab) (w : World) :
    Calls Tryz.prog 87 #[.agg #[.int .i64 l.side, .int .i64 l.num, .int .i64 l.st]] w fun e w' => e = .returned (.bool (okLab l)) ∧ w.alloc (.cells #[.int .i64 l.side, .int .i64 l.num, .int .i64 l.st] 55) = w' := by
  have HK := Lib.hid (okLab_iff l)
  go_enter Tryz.func87, Tryz.ntmps87
  go_wp2_with (first | (go_at_call 64; refine (bin_any _ _ _ _).mono ?_; rintro e w' ⟨rfl, rfl⟩) | (go_at_call 63; refine (bnum_any _ _).mono ?_; rintro e w' ⟨rfl, rfl⟩))
  all_goals go_ret
  all_goals refine ⟨ret_bool ?_, rfl⟩
  all_goals (rw [Bool.eq_iff_iff, HK.out]; simp [inR] at *; omega)
theorem rlvalid_any (l : Lab) (w : World) :
    Calls Tryz.prog 66 #[.agg #[.int .i64 l.side, .int .i64 l.num, .int .i64 l.st]] w fun e w' => e = .returned (.bool (okLab l)) ∧ (w.alloc (.cells #[.int .i64 l.side, .int .i64 l.num, .int .i64 l.st] 55)).alloc (.cells #[.int .i64 l.side, .int .i64 l.num, .int .i64 l.st] 55) = w' := by
  go_enter Tryz.func66, Tryz.ntmps66
  go_wp2_with (go_at_call 87; refine (blabel_any _ _).mono ?_; rintro e w' ⟨rfl, rfl⟩)
  go_ret
  exact ⟨rfl, rfl⟩

theorem svalid_any (x : Spm) (w : World) :
    Calls Tryz.prog 14 #[.agg #[.int .i64 x.id, .int .i64 x.obv, .int .i64 x.rev, .int .i64 x.os, .int .i64 x.rs, .int .i64 x.ax, .int .i64 x.wt]] w fun e w' => e = .returned (.bool (validS x)) ∧ w.alloc (.cells #[.int .i64 x.id, .int .i64 x.obv, .int .i64 x.rev, .int .i64 x.os, .int .i64 x.rs, .int .i64 x.ax, .int .i64 x.wt] 23) = w' := by
  have HK := Lib.hid (validS_iff x)
  go_enter Tryz.func14, Tryz.ntmps14
  go_wp2_with (go_at_call 40; refine (in_any _ _ _ _).mono ?_; rintro e w' ⟨rfl, rfl⟩)
  all_goals go_ret
  all_goals refine ⟨ret_bool ?_, rfl⟩
  all_goals (rw [Bool.eq_iff_iff, HK.out]; simp [inR] at *; omega)
theorem bspec_any (x : Spm) (w : World) :
    Calls Tryz.prog 41 #[.agg #[.int .i64 x.id, .int .i64 x.obv, .int .i64 x.rev, .int .i64 x.os, .int .i64 x.rs, .int .i64 x.ax, .int .i64 x.wt]] w fun e w' => e = .returned (.bool (validS x)) ∧ w.alloc (.cells #[.int .i64 x.id, .int .i64 x.obv, .int .i64 x.rev, .int .i64 x.os, .int .i64 x.rs, .int .i64 x.ax, .int .i64 x.wt] 23) = w' := by
  have HK := Lib.hid (validS_iff x)
  go_enter Tryz.func41, Tryz.ntmps41
  go_wp2_with (first | (go_at_call 64; refine (bin_any _ _ _ _).mono ?_; rintro e w' ⟨rfl, rfl⟩) | (go_at_call 63; refine (bnum_any _ _).mono ?_; rintro e w' ⟨rfl, rfl⟩) | (go_at_call 65; refine (bid_any _ _).mono ?_; rintro e w' ⟨rfl, rfl⟩))
  all_goals go_ret
  all_goals refine ⟨ret_bool ?_, rfl⟩
  all_goals (rw [Bool.eq_iff_iff, HK.out]; simp [inR] at *; omega)
theorem rsvalid_any (x : Spm) (w : World) :
    Calls Tryz.prog 15 #[.agg #[.int .i64 x.id, .int .i64 x.obv, .int .i64 x.rev, .int .i64 x.os, .int .i64 x.rs, .int .i64 x.ax, .int .i64 x.wt]] w fun e w' => e = .returned (.bool (validS x)) ∧ (w.alloc (.cells #[.int .i64 x.id, .int .i64 x.obv, .int .i64 x.rev, .int .i64 x.os, .int .i64 x.rs, .int .i64 x.ax, .int .i64 x.wt] 23)).alloc (.cells #[.int .i64 x.id, .int .i64 x.obv, .int .i64 x.rev, .int .i64 x.os, .int .i64 x.rs, .int .i64 x.ax, .int .i64 x.wt] 23) = w' := by
  go_enter Tryz.func15, Tryz.ntmps15
  go_wp2_with (go_at_call 41; refine (bspec_any _ _).mono ?_; rintro e w' ⟨rfl, rfl⟩)
  go_ret
  exact ⟨rfl, rfl⟩
theorem bdie_any (s n : Int) (w : World) :
    Calls Tryz.prog 54 #[.agg #[.int .i64 s, .int .i64 n]] w fun e w' => e = .returned (.bool (okDie s n)) ∧ w.alloc (.cells #[.int .i64 s, .int .i64 n] 33) = w' := by
  go_enter Tryz.func54, Tryz.ntmps54
  go_wp2_with (first | (go_at_call 64; refine (bin_any _ _ _ _).mono ?_; rintro e w' ⟨rfl, rfl⟩) | (go_at_call 63; refine (bnum_any _ _).mono ?_; rintro e w' ⟨rfl, rfl⟩))
  all_goals go_ret
  all_goals refine ⟨ret_bool ?_, rfl⟩
  all_goals simp [okDie, *]
theorem lvalidb_any (l : Lab) (w : World) :
    Calls Tryz.prog 60 #[.agg #[.int .i64 l.side, .int .i64 l.num, .int .i64 l.st]] w fun e w' => e = .returned (.bool (okLab l)) ∧ Below w.heap.size w w' :=
  (lvalid_any l w).mono fun e w' ⟨he, hw⟩ => ⟨he, by rw [← hw]; (repeat (first | exact Below.refl _ _ | assumption | refine Below.alloc ?_ (by first | omega | (simp only [World.size_alloc]; omega) | (simp; done) | (simp; omega)) _ | refine Below.setCell ?_ (by first | omega | (simp only [World.size_alloc]; omega) | (simp; done) | (simp; omega)) _ | refine Below.drew ?_ | refine below_drewN ?_ _))⟩
theorem blabelb_any (l : Lab) (w : World) :
    Calls Tryz.prog 87 #[.agg #[.int .i64 l.side, .int .i64 l.num, .int .i64 l.st]] w fun e w' => e = .returned (.bool (okLab l)) ∧ Below w.heap.size w w' :=
  (blabel_any l w).mono fun e w' ⟨he, hw⟩ => ⟨he, by rw [← hw]; (repeat (first | exact Below.refl _ _ | assumption | refine Below.alloc ?_ (by first | omega | (simp only [World.size_alloc]; omega) | (simp; done) | (simp; omega)) _ | refine Below.setCell ?_ (by first | omega | (simp only [World.size_alloc]; omega) | (simp; done) | (simp; omega)) _ | refine Below.drew ?_ | refine below_drewN ?_ _))⟩
theorem rlvalidb_any (l : Lab) (w : World) :
    Calls Tryz.prog 66 #[.agg #[.int .i64 l.side, .int .i64 l.num, .int .i64 l.st]] w fun e w' => e = .returned (.bool (okLab l)) ∧ Below w.heap.size w w' :=
  (rlvalid_any l w).mono fun e w' ⟨he, hw⟩ => ⟨he, by rw [← hw]; (repeat (first | exact Below.refl _ _ | assumption | refine Below.alloc ?_ (by first | omega | (simp only [World.size_alloc]; omega) | (simp; done) | (simp; omega)) _ | refine Below.setCell ?_ (by first | omega | (simp only [World.size_alloc]; omega) | (simp; done) | (simp; omega)) _ | refine Below.drew ?_ | refine below_drewN ?_ _))⟩
theorem svalidb_any (x : Spm) (w : World) :
    Calls Tryz.prog 14 #[.agg #[.int .i64 x.id, .int .i64 x.obv, .int .i64 x.rev, .int .i64 x.os, .int .i64 x.rs, .int .i64 x.ax, .int .i64 x.wt]] w fun e w' => e = .returned (.bool (validS x)) ∧ Below w.heap.size w w' :=
  (svalid_any x w).mono fun e w' ⟨he, hw⟩ => ⟨he, by rw [← hw]; (repeat (first | exact Below.refl _ _ | assumption | refine Below.alloc ?_ (by first | omega | (simp only [World.size_alloc]; omega) | (simp; done) | (simp; omega)) _ | refine Below.setCell ?_ (by first | omega | (simp only [World.size_alloc]; omega) | (simp; done) | (simp; omega)) _ | refine Below.drew ?_ | refine below_drewN ?_ _))⟩
theorem bspecb_any (x : Spm) (w : World) :
    Calls Tryz.prog 41 #[.agg #[.int .i64 x.id, .int .i64 x.obv, .int .i64 x.rev, .int .i64 x.os, .int .i64 x.rs, .int .i64 x.ax, .int .i64 x.wt]] w fun e w' => e = .returned (.bool (validS x)) ∧ Below w.heap.size w w' :=
  (bspec_any x w).mono fun e w' ⟨he, hw⟩ => ⟨he, by rw [← hw]; (repeat (first | exact Below.refl _ _ | assumption | refine Below.alloc ?_ (by first | omega | (simp only [World.size_alloc]; omega) | (simp; done) | (simp; omega)) _ | refine Below.setCell ?_ (by first | omega | (simp only [World.size_alloc]; omega) | (simp; done) | (simp; omega)) _ | refine Below.drew ?_ | refine below_drewN ?_ _))⟩
theorem rsvalidb_any (x : Spm) (w : World) :
    Calls Tryz.prog 15 #[.agg #[.int .i64 x.id, .int .i64 x.obv, .int .i64 x.rev, .int .i64 x.os, .int .i64 x.rs, .int .i64 x.ax, .int .i64 x.wt]] w fun e w' => e = .returned (.bool (validS x)) ∧ Below w.heap.size w w' :=
  (rsvalid_any x w).mono fun e w' ⟨he, hw⟩ => ⟨he, by rw [← hw]; (repeat (first | exact Below.refl _ _ | assumption | refine Below.alloc ?_ (by first | omega | (simp only [World.size_alloc]; omega) | (simp; done) | (simp; omega)) _ | refine Below.setCell ?_ (by first | omega | (simp only [World.size_alloc]; omega) | (simp; done) | (simp; omega)) _ | refine Below.drew ?_ | refine below_drewN ?_ _))⟩
theorem bdieb_any (s n : Int) (w : World) :
    Calls Tryz.prog 54 #[.agg #[.int .i64 s, .int .i64 n]] w fun e w' => e = .returned (.bool (okDie s n)) ∧ Below w.heap.size w w' :=
  (bdie_any s n w).mono fun e w' ⟨he, hw⟩ => ⟨he, by rw [← hw]; (repeat (first | exact Below.refl _ _ | assumption | refine Below.alloc ?_ (by first | omega | (simp only [World.size_alloc]; omega) | (simp; done) | (simp; omega)) _ | refine Below.setCell ?_ (by first | omega | (simp only [World.size_alloc]; omega) | (simp; done) | (simp; omega)) _ | refine Below.drew ?_ | refine below_drewN ?_ _))⟩
end Go.Proofs.YtnaoagkelbjflaaGreatDoor
