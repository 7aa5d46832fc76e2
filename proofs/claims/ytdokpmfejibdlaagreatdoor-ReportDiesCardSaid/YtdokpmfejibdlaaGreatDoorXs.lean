/- Chapter 54: ReportDies. -/
import Derived.Test.YtdokpmfejibdlaaGreatDoorXh
import Derived.Test.YtdokpmfejibdlaaGreatDoorXr
set_option linter.unusedSimpArgs false
set_option linter.unusedVariables false
namespace Go.Proofs.YtdokpmfejibdlaaGreatDoor
open Go.RowKit

set_option maxRecDepth 100000 in
set_option maxHeartbeats 4000000 in
theorem rdies_law (A : Option Addr) (len cap : Nat) (xs : List Spm) (side : Int) (w : World) (hE : Env w) (hS : Sl w 0 w.heap.size 7 encS A len xs) (hlm : len ≤ maxLen) :
    Calls Tryz.prog 4 #[.slice A len cap, .int .i64 side] w fun e w' => e = .returned (.bool true) ∧ Below w.heap.size w w' := by
  have HEN : Hid (∀ W, Below w.heap.size w W → Env W) := fun W hW => hE.step hW
  have HS : Hid (∀ W, Below w.heap.size w W → Sl W 0 W.heap.size 7 encS A len xs) := fun W hW => hS.up hW (Nat.le_refl _) (Nat.le_refl _)
  have HAW : Hid (∀ W, Below w.heap.size w W → Calls Tryz.prog 10 #[] W fun e w' => e = .returned (.bool true) ∧ Below W.heap.size W w') := fun W hW => awake_any W (HEN.out W hW)
  have HFW : Hid (∀ W, Below w.heap.size w W → Calls Tryz.prog 11 #[.slice A len cap] W fun e w' => e = .returned (.bool (fewB len xs)) ∧ Below W.heap.size W w') := fun W hW => few_law A len cap xs W (HS.out W hW) hlm
  clear hS hE
  go_enter Tryz.func4, Tryz.ntmps4
  go_wp2_with fail
  refine (HAW.out _ (Below.refl _ _)).mono ?_; rintro e w1 ⟨rfl, hb1⟩
  go_wp2_with fail
  refine (HFW.out _ hb1).mono ?_; rintro e w2 ⟨rfl, hb2⟩
  replace hb2 := below_keep' hb1 hb2
  cases hf : fewB len xs
  · go_wp2_with fail
    refine (HAW.out _ hb2).mono ?_; rintro e w3 ⟨rfl, hb3⟩
    go_wp2_with fail
    go_ret
    exact ⟨rfl, below_keep' hb2 hb3⟩
  have hlt200 := fewB_lt hf
  clear hlm hb1 hf HFW HAW
  have H1 : Hid (∀ W, Below w.heap.size w W → Calls Tryz.prog 18 #[.slice A len cap, .int .i64 side] W (RepW W (dL xs side) (dE xs side))) := fun W hW => rdies_any A len cap xs side W (HEN.out W hW) (by omega) (HS.out W hW)
  have H2 : Hid (∀ W, Below w.heap.size w W → Calls Tryz.prog 19 #[.slice A len cap, .int .i64 side] W (RepW W (dL xs side) (dE xs side))) := fun W hW => rdies54_any A len cap xs side W (by omega) (HS.out W hW)
  generalize dL xs side = t1 at *
  generalize dE xs side = e1 at *
  go_wp2_with fail
  refine (H1.out _ hb2).mono ?_; rintro e w3 ⟨rfl, hb3⟩
  replace hb3 := below_keep' hb2 hb3
  go_wp2_with fail
  refine (H2.out _ hb3).mono ?_; rintro e w4 ⟨rfl, hb4⟩
  replace hb4 := below_keep' hb3 hb4
  go_wp2_with fail
  go_ret
  exact ⟨by simp, hb4⟩
end Go.Proofs.YtdokpmfejibdlaaGreatDoor
