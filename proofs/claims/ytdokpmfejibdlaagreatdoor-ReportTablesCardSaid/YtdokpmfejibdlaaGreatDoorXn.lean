/- Chapter 54: ReportTables. -/
import Derived.Test.YtdokpmfejibdlaaGreatDoorXh
import Derived.Test.YtdokpmfejibdlaaGreatDoorXm
set_option linter.unusedSimpArgs false
set_option linter.unusedVariables false
namespace Go.Proofs.YtdokpmfejibdlaaGreatDoor
open Go.RowKit

set_option maxRecDepth 100000 in
set_option maxHeartbeats 8000000 in
theorem tables_law (A : Option Addr) (len cap : Nat) (xs : List Spm) (lo st n : Int) (w : World) (hE : Env w) (hS : Sl w 0 w.heap.size 7 encS A len xs) (hlm : len ≤ maxLen) :
    Calls Tryz.prog 5 #[.slice A len cap, .agg #[.int .i64 lo, .int .i64 st, .int .i64 n]] w fun e w' => e = .returned (.bool true) ∧ Below w.heap.size w w' := by
  have HEN : Hid (∀ W, Below w.heap.size w W → Env W) := fun W hW => hE.step hW
  have HS : Hid (∀ W, Below w.heap.size w W → Sl W 0 W.heap.size 7 encS A len xs) := fun W hW => hS.up hW (Nat.le_refl _) (Nat.le_refl _)
  have HAW : Hid (∀ W, Below w.heap.size w W → Calls Tryz.prog 10 #[] W fun e w' => e = .returned (.bool true) ∧ Below W.heap.size W w') := fun W hW => awake_any W (HEN.out W hW)
  have HFW : Hid (∀ W, Below w.heap.size w W → Calls Tryz.prog 11 #[.slice A len cap] W fun e w' => e = .returned (.bool (fewB len xs)) ∧ Below W.heap.size W w') := fun W hW => few_law A len cap xs W (HS.out W hW) hlm
  clear hS hE
  have X : Bx (w.alloc (.cells #[.int .i64 lo, .int .i64 st, .int .i64 n] 30)) w.heap.size [.int .i64 lo, .int .i64 st, .int .i64 n] := Bx.new w [.int .i64 lo, .int .i64 st, .int .i64 n] 30
  go_enter Tryz.func5, Tryz.ntmps5
  go_wp2_with fail
  have hb0 : Below w.heap.size w (w.alloc (.cells #[.int .i64 lo, .int .i64 st, .int .i64 n] 30)) := by (repeat (first | exact Below.refl _ _ | assumption | refine Below.alloc ?_ (by first | omega | (simp only [World.size_alloc]; omega) | (simp; done) | (simp; omega)) _ | refine Below.setCell ?_ (by first | omega | (simp only [World.size_alloc]; omega) | (simp; done) | (simp; omega)) _ | refine Below.drew ?_ | refine below_drewN ?_ _))
  generalize w.alloc (.cells #[.int .i64 lo, .int .i64 st, .int .i64 n] 30) = w0 at *
  refine (HAW.out _ hb0).mono ?_; rintro e w1 ⟨rfl, hb1⟩
  replace X := X.up hb1
  replace hb1 := below_keep' hb0 hb1
  go_wp2_with fail
  refine (HFW.out _ hb1).mono ?_; rintro e w2 ⟨rfl, hb2⟩
  replace X := X.up hb2
  replace hb2 := below_keep' hb1 hb2
  have x0 := X.cell 0 _ rfl
  have x1 := X.cell 1 _ rfl
  have x2 := X.cell 2 _ rfl
  cases hf : fewB len xs
  · go_wp2_with fail
    refine (HAW.out _ hb2).mono ?_; rintro e w3 ⟨rfl, hb3⟩
    go_wp2_with fail
    go_ret
    exact ⟨rfl, below_keep' hb2 hb3⟩
  have hlt200 := fewB_lt hf
  by_cases hn : 1000 < n
  · go_wp2_with fail
    refine (HAW.out _ hb2).mono ?_; rintro e w3 ⟨rfl, hb3⟩
    go_wp2_with fail
    go_ret
    exact ⟨rfl, below_keep' hb2 hb3⟩
  clear hlm hb0 hb1 hf HFW HAW
  have H1 : Hid (∀ W, Below w.heap.size w W → Calls Tryz.prog 20 #[.slice A len cap] W (RepW W (repL xs (hoursL (xs.map Spm.ax))) (grE xs))) := fun W hW => raxes_any A len cap xs W (HEN.out W hW) (by omega) (HS.out W hW)
  have H2 : Hid (∀ W, Below w.heap.size w W → Calls Tryz.prog 21 #[.slice A len cap] W (RepW W (repL xs (hoursL (xs.map Spm.ax))) (grE xs))) := fun W hW => raxes54_any A len cap xs W (by omega) (HS.out W hW)
  have H3 : Hid (∀ W, Below w.heap.size w W → Calls Tryz.prog 22 #[.slice A len cap, .int .i64 lo, .int .i64 st, .int .i64 n] W (RepW W (wtL xs lo st n) (wtE xs lo st n))) := fun W hW => rweights_any A len cap xs lo st n W (HEN.out W hW) (by omega) (HS.out W hW)
  have H4 : Hid (∀ W, Below w.heap.size w W → Calls Tryz.prog 23 #[.slice A len cap, .int .i64 lo, .int .i64 st, .int .i64 n] W (RepW W (wtL xs lo st n) (wtE xs lo st n))) := fun W hW => rweights54_any A len cap xs lo st n W (by omega) (HS.out W hW)
  generalize repL xs (hoursL (xs.map Spm.ax)) = t1 at *
  generalize wtL xs lo st n = t2 at *
  generalize wtE xs lo st n = e2 at *
  generalize grE xs = e1 at *
  go_wp2_with fail
  refine (H1.out _ hb2).mono ?_; rintro e w3 ⟨rfl, hb3⟩
  replace X := X.up hb3
  replace hb3 := below_keep' hb2 hb3
  go_wp2_with fail
  refine (H2.out _ hb3).mono ?_; rintro e w4 ⟨rfl, hb4⟩
  replace X := X.up hb4
  replace hb4 := below_keep' hb3 hb4
  clear x0 x1 x2
  have x0 := X.cell 0 _ rfl
  have x1 := X.cell 1 _ rfl
  have x2 := X.cell 2 _ rfl
  go_wp2_with fail
  refine (H3.out _ hb4).mono ?_; rintro e w5 ⟨rfl, hb5⟩
  replace X := X.up hb5
  replace hb5 := below_keep' hb4 hb5
  clear x0 x1 x2
  have x0 := X.cell 0 _ rfl
  have x1 := X.cell 1 _ rfl
  have x2 := X.cell 2 _ rfl
  go_wp2_with fail
  refine (H4.out _ hb5).mono ?_; rintro e w6 ⟨rfl, hb6⟩
  replace hb6 := below_keep' hb5 hb6
  go_wp2_with fail
  go_ret
  exact ⟨by simp, hb6⟩
end Go.Proofs.YtdokpmfejibdlaaGreatDoor
