/- ProvenanceSuspects: the law's walk (chapter 46). -/
import Derived.Test.YtccmchmemafjdaaGreatDoorQc
import Derived.Test.YtccmchmemafjdaaGreatDoorPu
set_option linter.unusedSimpArgs false
set_option linter.unusedVariables false
namespace Go.Proofs.YtccmchmemafjdaaGreatDoor
open Go.RowKit

set_option maxRecDepth 100000 in
set_option maxHeartbeats 8000000 in
theorem suspects_law (A : Option Addr) (n c : Nat) (ls : List Lst) (w : World) (hE : Env w) (hS : LsS w A n ls) :
    Calls Tryz.prog 8 #[.slice A n c] w fun r w' => r = .returned (.bool true) ∧ Below w.heap.size w w' := by
  have HEN : Hid (∀ W, Below w.heap.size w W → Env W) := fun W hW => hE.step hW
  have HU : Hid (∀ W, Below w.heap.size w W → LsS W A n ls) := fun W hW => hS.up hW
  clear hE hS
  go_enter Tryz.func8, Tryz.ntmps8
  go_wp2_with fail
  refine (awake_any _ (HEN.out _ (Below.refl _ _))).mono ?_; rintro r w1 ⟨rfl, hb⟩
  go_wp2_with fail
  refine (few_any A n c _).mono ?_; rintro r w2 ⟨rfl, hw2⟩
  subst w2
  by_cases hf : n ≤ 12 ∨ n = 65
  rotate_left 1
  · rw [decide_eq_false hf]
    clear hf
    go_wp2_with fail
    refine (awake_any _ (HEN.out _ hb)).mono ?_; rintro r w3 ⟨rfl, hb3⟩
    (replace hb := hb.trans (hb3.mono hb.size)); clear hb3
    go_wp2_with fail
    go_ret
    exact ⟨rfl, hb⟩
  rw [decide_eq_true hf]
  have hn : n ≤ 1000000 := by omega
  clear hf
  have HJ1 : Hid (∀ W, Below w.heap.size w W → Calls Tryz.prog 30 #[.slice A n c] W fun e w' => PairsOut (susS ls) (chkL ls) e w' ∧ Below W.heap.size W w') := fun W hW => psuspects_any A n c ls W hn (HU.out W hW)
  have HJ2 : Hid (∀ W, Below w.heap.size w W → Calls Tryz.prog 31 #[.slice A n c] W fun e w' => PairsOut (susS ls) (chkL ls) e w' ∧ Below W.heap.size W w') := fun W hW => rsuspects_any A n c ls W hn (HU.out W hW)
  clear HU
  unfold PairsOut at HJ1 HJ2
  generalize chkL ls = je at *
  generalize susS ls = gs at *
  go_wp2_with fail
  refine (HJ1.out _ hb).mono ?_; rintro r w3 ⟨⟨A2, n2, c2, rfl, hn2, hL, _⟩, hb3⟩
  (replace hb := hb.trans (hb3.mono hb.size)); clear hb3
  go_wp2_with fail
  refine (HJ2.out _ hb).mono ?_; rintro r w4 ⟨⟨A3, n3, c3, rfl, hn3, hL3, _⟩, hb4⟩
  replace hL := Sl.up hL hb4 (Nat.le_refl _) (Nat.le_refl _)
  (replace hb := hb.trans (hb4.mono hb.size)); clear hb4
  go_wp2_with fail
  refine (pairs_any A2 n2 c2 gs A3 n3 c3 gs _ hn2 hn3 hL hL3).mono ?_; rintro r w5 ⟨rfl, hb5⟩
  rw [decide_eq_true (rfl : gs = gs)]
  (replace hb := hb.trans (hb5.mono hb.size)); clear hb5
  go_wp2_with fail
  go_ret
  exact ⟨by simp, hb⟩
end Go.Proofs.YtccmchmemafjdaaGreatDoor
