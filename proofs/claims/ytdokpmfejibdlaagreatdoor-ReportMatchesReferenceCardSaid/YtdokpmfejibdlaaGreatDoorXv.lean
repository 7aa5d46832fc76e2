/- Chapter 54: ReportMatchesReference. -/
import Derived.Test.YtdokpmfejibdlaaGreatDoorXh
import Derived.Test.YtdokpmfejibdlaaGreatDoorXz
import Derived.Test.YtdokpmfejibdlaaGreatDoorXy
set_option linter.unusedSimpArgs false
set_option linter.unusedVariables false
namespace Go.Proofs.YtdokpmfejibdlaaGreatDoor
open Go.RowKit

set_option maxRecDepth 100000 in
set_option maxHeartbeats 4000000 in
theorem matches_law (A : Option Addr) (len cap : Nat) (xs : List Spm) (w : World) (hE : Env w) (hS : Sl w 0 w.heap.size 7 encS A len xs) (hlm : len ≤ maxLen) :
    Calls Tryz.prog 3 #[.slice A len cap] w fun e w' => e = .returned (.bool true) ∧ Below w.heap.size w w' := by
  have HEN : Hid (∀ W, Below w.heap.size w W → Env W) := fun W hW => hE.step hW
  have HS : Hid (∀ W, Below w.heap.size w W → Sl W 0 W.heap.size 7 encS A len xs) := fun W hW => hS.up hW (Nat.le_refl _) (Nat.le_refl _)
  have HAW : Hid (∀ W, Below w.heap.size w W → Calls Tryz.prog 10 #[] W fun e w' => e = .returned (.bool true) ∧ Below W.heap.size W w') := fun W hW => awake_any W (HEN.out W hW)
  have HFW : Hid (∀ W, Below w.heap.size w W → Calls Tryz.prog 11 #[.slice A len cap] W fun e w' => e = .returned (.bool (fewB len xs)) ∧ Below W.heap.size W w') := fun W hW => few_law A len cap xs W (HS.out W hW) hlm
  clear hS hE
  go_enter Tryz.func3, Tryz.ntmps3
  go_wp2_with fail
  refine (HAW.out _ (Below.refl _ _)).mono ?_; rintro e w1 ⟨rfl, hb1⟩
  go_wp2_with fail
  refine (HFW.out _ hb1).mono ?_; rintro e w2 ⟨rfl, hb2⟩
  replace hb2 := below_keep' hb1 hb2
  cases hf : fewB len xs
  · go_wp2_with fail
    refine (HAW.out _ hb2).mono ?_; rintro e w3 ⟨rfl, hb3⟩
    go_wp2_with fail
    go_ret
    exact ⟨rfl, below_keep' hb2 hb3⟩
  have hlt200 := fewB_lt hf
  clear hlm hb1 hf HFW HAW
  have H1 : Hid (∀ W, Below w.heap.size w W → Calls Tryz.prog 12 #[.slice A len cap] W (RepW W (repL xs (sumL (nsG xs))) (grE xs))) := fun W hW => rsummary_any A len cap xs W (HEN.out W hW) (by omega) (HS.out W hW)
  have H2 : Hid (∀ W, Below w.heap.size w W → Calls Tryz.prog 13 #[.slice A len cap] W (RepW W (repL xs (sumL (nsG xs))) (grE xs))) := fun W hW => rsummary54_any A len cap xs W (by omega) (HS.out W hW)
  have H3 : Hid (∀ W, Below w.heap.size w W → Calls Tryz.prog 14 #[.slice A len cap] W (RepW W (repL xs (chainsL (chainsG (grOf xs)))) (grE xs))) := fun W hW => rchains_any A len cap xs W (HEN.out W hW) (by omega) (HS.out W hW)
  have H4 : Hid (∀ W, Below w.heap.size w W → Calls Tryz.prog 15 #[.slice A len cap] W (RepW W (repL xs (chainsL (chainsG (grOf xs)))) (grE xs))) := fun W hW => rchains54_any A len cap xs W (by omega) (HS.out W hW)
  have H5 : Hid (∀ W, Below w.heap.size w W → Calls Tryz.prog 16 #[.slice A len cap] W (RepW W (repL xs (matrixL (grOf xs))) (grE xs))) := fun W hW => rmatrix_any A len cap xs W (HEN.out W hW) (by omega) (HS.out W hW)
  have H6 : Hid (∀ W, Below w.heap.size w W → Calls Tryz.prog 17 #[.slice A len cap] W (RepW W (repL xs (matrixL (grOf xs))) (grE xs))) := fun W hW => rmatrix54_any A len cap xs W (by omega) (HS.out W hW)
  generalize repL xs (sumL (nsG xs)) = t1 at *
  generalize repL xs (chainsL (chainsG (grOf xs))) = t2 at *
  generalize repL xs (matrixL (grOf xs)) = t3 at *
  generalize grE xs = e1 at *
  go_wp2_with fail
  refine (H1.out _ hb2).mono ?_; rintro e w3 ⟨rfl, hb3⟩
  replace hb3 := below_keep' hb2 hb3
  go_wp2_with fail
  refine (H2.out _ hb3).mono ?_; rintro e w4 ⟨rfl, hb4⟩
  replace hb4 := below_keep' hb3 hb4
  go_wp2_with fail
  refine (H3.out _ hb4).mono ?_; rintro e w5 ⟨rfl, hb5⟩
  replace hb5 := below_keep' hb4 hb5
  go_wp2_with fail
  refine (H4.out _ hb5).mono ?_; rintro e w6 ⟨rfl, hb6⟩
  replace hb6 := below_keep' hb5 hb6
  go_wp2_with fail
  refine (H5.out _ hb6).mono ?_; rintro e w7 ⟨rfl, hb7⟩
  replace hb7 := below_keep' hb6 hb7
  go_wp2_with fail
  refine (H6.out _ hb7).mono ?_; rintro e w8 ⟨rfl, hb8⟩
  replace hb8 := below_keep' hb7 hb8
  go_wp2_with fail
  go_ret
  exact ⟨by simp, hb8⟩
end Go.Proofs.YtdokpmfejibdlaaGreatDoor
