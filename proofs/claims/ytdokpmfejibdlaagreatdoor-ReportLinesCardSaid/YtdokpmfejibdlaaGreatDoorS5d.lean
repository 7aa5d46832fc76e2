
/- Predicates of labels and specimens: the program's and the base's. -/
import Derived.Test.YtdokpmfejibdlaaGreatDoorProg
import Derived.Test.YtdokpmfejibdlaaGreatDoorBase
import Derived.Test.YtdokpmfejibdlaaGreatDoorSc
set_option linter.unusedSimpArgs false
set_option linter.unusedVariables false
namespace Go.Proofs.YtdokpmfejibdlaaGreatDoor
open Go.RowKit

theorem in_any (n a b : Int) (w : World) :
    Calls Tryz.prog 176 #[.int .i64 n, .int .i64 a, .int .i64 b] w fun e w' => e = .returned (.bool (inR n a b)) ∧ w = w' := by
  go_enter Tryz.func176, Tryz.ntmps176
  go_wp2
  all_goals go_ret
  · exact ⟨by simp [inR, *], rfl⟩
  · exact ⟨by simp [inR]; omega, rfl⟩
theorem bin_any (n a b : Int) (w : World) :
    Calls Tryz.prog 106 #[.int .i64 n, .int .i64 a, .int .i64 b] w fun e w' => e = .returned (.bool (inR n a b)) ∧ w = w' := by
  go_enter Tryz.func106, Tryz.ntmps106
  go_wp2
  all_goals go_ret
  · exact ⟨by simp [inR, *], rfl⟩
  · exact ⟨by simp [inR]; omega, rfl⟩
theorem lnum_any (n : Int) (w : World) :
    Calls Tryz.prog 173 #[.int .i64 n] w fun e w' => e = .returned (.bool (inR n 1 999)) ∧ w = w' := by
  go_enter Tryz.func173, Tryz.ntmps173
  go_wp2
  all_goals go_ret
  · exact ⟨by simp [inR, *], rfl⟩
  · exact ⟨by simp [inR]; omega, rfl⟩
theorem bnum_any (n : Int) (w : World) :
    Calls Tryz.prog 105 #[.int .i64 n] w fun e w' => e = .returned (.bool (inR n 1 999)) ∧ w = w' := by
  go_enter Tryz.func105, Tryz.ntmps105
  go_wp2_with (go_at_call 106; refine (bin_any _ _ _ _).mono ?_; rintro e w' ⟨rfl, rfl⟩)
  go_ret
  exact ⟨rfl, rfl⟩
theorem bid_any (n : Int) (w : World) :
    Calls Tryz.prog 107 #[.int .i64 n] w fun e w' => e = .returned (.bool (inR n 1 9999)) ∧ w = w' := by
  go_enter Tryz.func107, Tryz.ntmps107
  go_wp2_with (go_at_call 106; refine (bin_any _ _ _ _).mono ?_; rintro e w' ⟨rfl, rfl⟩)
  go_ret
  exact ⟨rfl, rfl⟩

theorem lvalid_any (l : Lab) (w : World) :
    Calls Tryz.prog 127 #[.agg #[.int .i64 l.side, .int .i64 l.num, .int .i64 l.st]] w fun e w' => e = .returned (.bool (okLab l)) ∧ w.alloc (.cells #[.int .i64 l.side, .int .i64 l.num, .int .i64 l.st] 117) = w' := by
  have HK := Lib.hid (okLab_iff l)
  go_enter Tryz.func127, Tryz.ntmps127
  go_wp2_with (go_at_call 173; refine (lnum_any _ _).mono ?_; rintro e w' ⟨rfl, rfl⟩)
  all_goals go_ret
  all_goals refine ⟨ret_bool ?_, by first | rfl | simp [*]⟩
  all_goals (rw [Bool.eq_iff_iff, HK.out]; simp [inR] at *; omega)
theorem blabel_any (l : Lab) (w : World) :
    Calls Tryz.prog 174 #[.agg #[.int .i64 l.side, .int .i64 l.num, .int .i64 l.st]] w fun e w' => e = .returned (.bool (okLab l)) ∧ w.alloc (.cells #[.int .i64 l.side, .int .i64 l.num, .int .i64 l.st] 117) = w' := by
  have HK := Lib.hid (okLab_iff l)
  go_enter Tryz.func174, Tryz.ntmps174
  go_wp2_with (first | (go_at_call 106; refine (bin_any _ _ _ _).mono ?_; rintro e w' ⟨rfl, rfl⟩) | (go_at_call 105; refine (bnum_any _ _).mono ?_; rintro e w' ⟨rfl, rfl⟩))
  all_goals go_ret
  all_goals refine ⟨ret_bool ?_, rfl⟩
  all_goals (rw [Bool.eq_iff_iff, HK.out]; simp [inR] at *; omega)
theorem rlvalid_any (l : Lab) (w : World) :
    Calls Tryz.prog 128 #[.agg #[.int .i64 l.side, .int .i64 l.num, .int .i64 l.st]] w fun e w' => e = .returned (.bool (okLab l)) ∧ (w.alloc (.cells #[.int .i64 l.side, .int .i64 l.num, .int .i64 l.st] 117)).alloc (.cells #[.int .i64 l.side, .int .i64 l.num, .int .i64 l.st] 117) = w' := by
  go_enter Tryz.func128, Tryz.ntmps128
  go_wp2_with (go_at_call 174; refine (blabel_any _ _).mono ?_; rintro e w' ⟨rfl, rfl⟩)
  go_ret
  exact ⟨rfl, rfl⟩

theorem svalid_any (x : Spm) (w : World) :
    Calls Tryz.prog 133 #[.agg #[.int .i64 x.id, .int .i64 x.obv, .int .i64 x.rev, .int .i64 x.os, .int .i64 x.rs, .int .i64 x.ax, .int .i64 x.wt]] w fun e w' => e = .returned (.bool (validS x)) ∧ w.alloc (.cells #[.int .i64 x.id, .int .i64 x.obv, .int .i64 x.rev, .int .i64 x.os, .int .i64 x.rs, .int .i64 x.ax, .int .i64 x.wt] 34) = w' := by
  have HK := Lib.hid (validS_iff x)
  go_enter Tryz.func133, Tryz.ntmps133
  go_wp2_with (go_at_call 176; refine (in_any _ _ _ _).mono ?_; rintro e w' ⟨rfl, rfl⟩)
  all_goals go_ret
  all_goals refine ⟨ret_bool ?_, rfl⟩
  all_goals (rw [Bool.eq_iff_iff, HK.out]; simp [inR] at *; omega)
theorem bspec_any (x : Spm) (w : World) :
    Calls Tryz.prog 61 #[.agg #[.int .i64 x.id, .int .i64 x.obv, .int .i64 x.rev, .int .i64 x.os, .int .i64 x.rs, .int .i64 x.ax, .int .i64 x.wt]] w fun e w' => e = .returned (.bool (validS x)) ∧ w.alloc (.cells #[.int .i64 x.id, .int .i64 x.obv, .int .i64 x.rev, .int .i64 x.os, .int .i64 x.rs, .int .i64 x.ax, .int .i64 x.wt] 34) = w' := by
  have HK := Lib.hid (validS_iff x)
  go_enter Tryz.func61, Tryz.ntmps61
  go_wp2_with (first | (go_at_call 106; refine (bin_any _ _ _ _).mono ?_; rintro e w' ⟨rfl, rfl⟩) | (go_at_call 105; refine (bnum_any _ _).mono ?_; rintro e w' ⟨rfl, rfl⟩) | (go_at_call 107; refine (bid_any _ _).mono ?_; rintro e w' ⟨rfl, rfl⟩))
  all_goals go_ret
  all_goals refine ⟨ret_bool ?_, rfl⟩
  all_goals (rw [Bool.eq_iff_iff, HK.out]; simp [inR] at *; omega)
theorem lvalidb_any (l : Lab) (w : World) :
    Calls Tryz.prog 127 #[.agg #[.int .i64 l.side, .int .i64 l.num, .int .i64 l.st]] w fun e w' => e = .returned (.bool (okLab l)) ∧ Below w.heap.size w w' :=
  (lvalid_any l w).mono fun e w' ⟨he, hw⟩ => ⟨he, by rw [← hw]; (repeat (first | exact Below.refl _ _ | assumption | refine Below.alloc ?_ (by first | omega | (simp only [World.size_alloc]; omega) | (simp; done) | (simp; omega)) _ | refine Below.setCell ?_ (by first | omega | (simp only [World.size_alloc]; omega) | (simp; done) | (simp; omega)) _ | refine Below.drew ?_ | refine below_drewN ?_ _))⟩
theorem blabelb_any (l : Lab) (w : World) :
    Calls Tryz.prog 174 #[.agg #[.int .i64 l.side, .int .i64 l.num, .int .i64 l.st]] w fun e w' => e = .returned (.bool (okLab l)) ∧ Below w.heap.size w w' :=
  (blabel_any l w).mono fun e w' ⟨he, hw⟩ => ⟨he, by rw [← hw]; (repeat (first | exact Below.refl _ _ | assumption | refine Below.alloc ?_ (by first | omega | (simp only [World.size_alloc]; omega) | (simp; done) | (simp; omega)) _ | refine Below.setCell ?_ (by first | omega | (simp only [World.size_alloc]; omega) | (simp; done) | (simp; omega)) _ | refine Below.drew ?_ | refine below_drewN ?_ _))⟩
theorem rlvalidb_any (l : Lab) (w : World) :
    Calls Tryz.prog 128 #[.agg #[.int .i64 l.side, .int .i64 l.num, .int .i64 l.st]] w fun e w' => e = .returned (.bool (okLab l)) ∧ Below w.heap.size w w' :=
  (rlvalid_any l w).mono fun e w' ⟨he, hw⟩ => ⟨he, by rw [← hw]; (repeat (first | exact Below.refl _ _ | assumption | refine Below.alloc ?_ (by first | omega | (simp only [World.size_alloc]; omega) | (simp; done) | (simp; omega)) _ | refine Below.setCell ?_ (by first | omega | (simp only [World.size_alloc]; omega) | (simp; done) | (simp; omega)) _ | refine Below.drew ?_ | refine below_drewN ?_ _))⟩
theorem svalidb_any (x : Spm) (w : World) :
    Calls Tryz.prog 133 #[.agg #[.int .i64 x.id, .int .i64 x.obv, .int .i64 x.rev, .int .i64 x.os, .int .i64 x.rs, .int .i64 x.ax, .int .i64 x.wt]] w fun e w' => e = .returned (.bool (validS x)) ∧ Below w.heap.size w w' :=
  (svalid_any x w).mono fun e w' ⟨he, hw⟩ => ⟨he, by rw [← hw]; (repeat (first | exact Below.refl _ _ | assumption | refine Below.alloc ?_ (by first | omega | (simp only [World.size_alloc]; omega) | (simp; done) | (simp; omega)) _ | refine Below.setCell ?_ (by first | omega | (simp only [World.size_alloc]; omega) | (simp; done) | (simp; omega)) _ | refine Below.drew ?_ | refine below_drewN ?_ _))⟩
theorem bspecb_any (x : Spm) (w : World) :
    Calls Tryz.prog 61 #[.agg #[.int .i64 x.id, .int .i64 x.obv, .int .i64 x.rev, .int .i64 x.os, .int .i64 x.rs, .int .i64 x.ax, .int .i64 x.wt]] w fun e w' => e = .returned (.bool (validS x)) ∧ Below w.heap.size w w' :=
  (bspec_any x w).mono fun e w' ⟨he, hw⟩ => ⟨he, by rw [← hw]; (repeat (first | exact Below.refl _ _ | assumption | refine Below.alloc ?_ (by first | omega | (simp only [World.size_alloc]; omega) | (simp; done) | (simp; omega)) _ | refine Below.setCell ?_ (by first | omega | (simp only [World.size_alloc]; omega) | (simp; done) | (simp; omega)) _ | refine Below.drew ?_ | refine below_drewN ?_ _))⟩
end Go.Proofs.YtdokpmfejibdlaaGreatDoor
