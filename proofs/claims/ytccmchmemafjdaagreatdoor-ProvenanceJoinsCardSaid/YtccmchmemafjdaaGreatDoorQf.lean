/- ProvenanceJoins: the law's walk (chapter 46). -/
import Derived.Test.YtccmchmemafjdaaGreatDoorQc
import Derived.Test.YtccmchmemafjdaaGreatDoorPq
set_option linter.unusedSimpArgs false
set_option linter.unusedVariables false
namespace Go.Proofs.YtccmchmemafjdaaGreatDoor
open Go.RowKit

set_option maxRecDepth 100000 in
set_option maxHeartbeats 8000000 in
theorem joins_law (A : Option Addr) (n c : Nat) (ls : List Lst) (A' : Option Addr) (m c' : Nat) (P : List (Int × Int)) (w : World) (hE : Env w) (hS : LsS w A n ls) (hP : Sl w 0 w.heap.size 2 encE A' m P) :
    Calls Tryz.prog 6 #[.slice A n c, .slice A' m c'] w fun r w' => r = .returned (.bool true) ∧ Below w.heap.size w w' := by
  have HEN : Hid (∀ W, Below w.heap.size w W → Env W) := fun W hW => hE.step hW
  have HU : Hid (∀ W, Below w.heap.size w W → LsS W A n ls) := fun W hW => hS.up hW
  have HP : Hid (∀ W, Below w.heap.size w W → Sl W 0 W.heap.size 2 encE A' m P) := fun W hW => Sl.up hP hW (Nat.le_refl _) (Nat.le_refl _)
  clear hE hS hP
  go_enter Tryz.func6, Tryz.ntmps6
  go_wp2_with fail
  refine (awake_any _ (HEN.out _ (Below.refl _ _))).mono ?_; rintro r w1 ⟨rfl, hb⟩
  go_wp2_with fail
  refine (few_any A n c _).mono ?_; rintro r w2 ⟨rfl, hw2⟩
  subst w2
  by_cases hf : n ≤ 12 ∨ n = 65
  rotate_left 1
  · rw [decide_eq_false hf]
    clear hf
    go_wp2_with fail
    refine (awake_any _ (HEN.out _ hb)).mono ?_; rintro r w3 ⟨rfl, hb3⟩
    (replace hb := hb.trans (hb3.mono hb.size)); clear hb3
    go_wp2_with fail
    go_ret
    exact ⟨rfl, hb⟩
  rw [decide_eq_true hf]
  have hn : n ≤ 1000000 := by omega
  clear hf
  by_cases hm : m ≤ 8 ∨ m = 65
  rotate_left 1
  · have h8 : (8 : Int) < (m : Int) := by omega
    have h65 : ((m : Int) != 65) = true := by simp; omega
    clear hm
    go_wp2_with fail
    refine (awake_any _ (HEN.out _ hb)).mono ?_; rintro r w3 ⟨rfl, hb3⟩
    (replace hb := hb.trans (hb3.mono hb.size)); clear hb3
    go_wp2_with fail
    go_ret
    exact ⟨rfl, hb⟩
  have hm9 : m ≤ 1000000 := by omega
  have HJ1 : Hid (∀ W, Below w.heap.size w W → Calls Tryz.prog 25 #[.slice A n c, .slice A' m c'] W fun e w' => GroupsOut ls P (joinE ls P) e w' ∧ Below W.heap.size W w') := fun W hW => pjoined_any A n c ls A' m c' P W hn hm9 (HU.out W hW) (HP.out W hW)
  have HJ2 : Hid (∀ W, Below w.heap.size w W → Calls Tryz.prog 26 #[.slice A n c, .slice A' m c'] W fun e w' => GroupsOut ls P (joinE ls P) e w' ∧ Below W.heap.size W w') := fun W hW => rjoined_any A n c ls A' m c' P W hn hm9 (HU.out W hW) (HP.out W hW)
  clear HU HP
  unfold GroupsOut at HJ1 HJ2
  generalize joinE ls P = je at *
  generalize (if je = 0 then groupsOf (idsL ls) (nmU ls P) else []) = gs at *
  rcases hm with hm8 | rfl
  all_goals
    go_wp2_with fail
    refine (HJ1.out _ hb).mono ?_; rintro r w3 ⟨⟨A2, n2, c2, rfl, hn2, hL, _⟩, hb3⟩
    (replace hb := hb.trans (hb3.mono hb.size)); clear hb3
    go_wp2_with fail
    refine (HJ2.out _ hb).mono ?_; rintro r w4 ⟨⟨A3, n3, c3, rfl, hn3, hL3, _⟩, hb4⟩
    (replace hb := hb.trans (hb4.mono hb.size)); replace hL := hL.up hb4; clear hb4
    go_wp2_with fail
    refine (lists_any A2 n2 c2 gs A3 n3 c3 gs _ hn2 hn3 hL hL3).mono ?_; rintro r w5 ⟨rfl, hb5⟩
    rw [decide_eq_true (rfl : gs = gs)]
    (replace hb := hb.trans (hb5.mono hb.size)); clear hb5
    go_wp2_with fail
    go_ret
    exact ⟨by simp, hb⟩
end Go.Proofs.YtccmchmemafjdaaGreatDoor
