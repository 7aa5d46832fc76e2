/- The law of what is imported. -/
import Derived.Test.YtnaoagkelbjflaaGreatDoorVe
set_option linter.unusedSimpArgs false
set_option linter.unusedVariables false
namespace Go.Proofs.YtnaoagkelbjflaaGreatDoor
open Go.RowKit

theorem imp_no {w : World} {s : List UInt8} {e : Ending} {w' : World} (hn : ∀ l, ¬ ImpOk s l) (h : ImpOut w s e w') : e = .returned (.tuple #[.slice none 0 0, .int .i64 (impCode s)]) ∧ Below w.heap.size w w' := by
  obtain ⟨⟨l', hl', _⟩ | ⟨_, he⟩, hb⟩ := h
  · exact absurd hl' (hn _)
  · exact ⟨he, hb⟩
theorem impCode_ne (s : List UInt8) : (impCode s != 0) = true := by unfold impCode; split <;> decide

set_option maxRecDepth 100000 in
set_option maxHeartbeats 4000000 in
theorem imports_law (s : List UInt8) (w : World) (hE : Env w) (hlm : s.length ≤ maxLen) :
    Calls Tryz.prog 10 #[.string ⟨s.toArray⟩] w fun e w' => e = .returned (.bool true) ∧ Below w.heap.size w w' := by
  have hE' := Lib.hid hE; clear hE
  go_enter Tryz.func10, Tryz.ntmps10
  by_cases hl : 5000 < s.length
  · go_wp2_with fail
    refine (awake_any _ hE'.out).mono ?_; rintro e w1 ⟨rfl, hb⟩
    go_wp2_with fail
    refine (awake_any _ (hE'.out.step hb)).mono ?_; rintro e w2 ⟨rfl, hb2⟩
    (replace hb := hb.trans (hb2.mono hb.size)); clear hb2
    go_wp2_with fail
    go_ret
    exact ⟨rfl, hb⟩
  have hl' : s.length ≤ 5000 := by omega
  clear hl
  go_wp2_with fail
  refine (awake_any _ hE'.out).mono ?_; rintro e w1 ⟨rfl, hb⟩
  go_wp2_with fail
  refine (simport_any s _ (hE'.out.step hb) (by omega)).mono ?_
  intro e w2 h2
  by_cases hyes : ∃ l, ImpOk s l
  · obtain ⟨l, hok⟩ := hyes
    obtain ⟨⟨L, nl, cl, rfl, hL⟩, hb2⟩ := imp_yes hok h2
    replace hL := hL.any
    clear h2
    (replace hb := hb.trans (hb2.mono hb.size)); clear hb2
    have hc := hok.chk
    have hnl : nl ≤ 64 := by have := hL.len; have := chk_len hc; omega
    have HX : Hid (expL l = s) := exp_of_imp hok
    have HOK := Lib.hid hok; clear hok
    have HC := Lib.hid hc; clear hc
    go_wp2_with fail
    refine (rimport_any s _ (by omega)).mono ?_
    intro e w3 h3
    obtain ⟨⟨M, nm, cm, rfl, hM⟩, hb3⟩ := imp_yes HOK.out h3
    replace hM := hM.any
    clear h3
    (replace hb := hb.trans (hb3.mono hb.size)); replace hL := hL.up hb3 (Nat.le_refl _) (Nat.le_refl _); clear hb3
    have hnm : nm ≤ 64 := by have := hM.len; have := hL.len; omega
    go_wp2_with fail
    refine (sexport_any L nl cl l _ (hE'.out.step hb) (by omega) hL).mono ?_; rintro e w4 ⟨rfl, hb4⟩
    rw [HX.out, HC.out]
    (replace hb := hb.trans (hb4.mono hb.size)); replace hL := hL.up hb4 (Nat.le_refl _) (Nat.le_refl _); replace hM := hM.up hb4 (Nat.le_refl _) (Nat.le_refl _); clear hb4
    go_wp2_with fail
    refine (specs_any L nl cl l M nm cm l _ (by omega) (by omega) hL hM).mono ?_; rintro e w5 ⟨rfl, hb5⟩
    rw [decide_eq_true (rfl : l = l)]
    (replace hb := hb.trans (hb5.mono hb.size)); clear hb5
    go_wp2_with fail
    go_ret
    exact ⟨rfl, hb⟩
  · have hno : ∀ l, ¬ ImpOk s l := fun l h => hyes ⟨l, h⟩
    obtain ⟨rfl, hb2⟩ := imp_no hno h2
    clear h2 hyes
    (replace hb := hb.trans (hb2.mono hb.size)); clear hb2
    have hd := impCode_ne s
    have HR : Hid (Calls Tryz.prog 33 #[.string ⟨s.toArray⟩] w2 (fun e w' => e = .returned (.tuple #[.slice none 0 0, .int .i64 (impCode s)]) ∧ Below w2.heap.size w2 w')) := (rimport_any s w2 (by omega)).mono fun e w' h => imp_no hno h
    clear hno
    generalize impCode s = ic at *
    go_wp2_with fail
    refine HR.out.mono ?_; rintro e w3 ⟨rfl, hb3⟩
    (replace hb := hb.trans (hb3.mono hb.size)); clear hb3
    have hE3 := Lib.hid (sexport_any none 0 0 [] w3 (hE'.out.step hb) (by omega) Sl.nil)
    go_wp2_with fail
    refine hE3.out.mono ?_; rintro e w4 ⟨rfl, hb4⟩
    (replace hb := hb.trans (hb4.mono hb.size)); clear hb4
    generalize expL [] = et at *
    generalize chk [] = ec at *
    go_wp2_with fail
    refine (specs_any none 0 0 [] none 0 0 [] _ (by omega) (by omega) Sl.nil Sl.nil).mono ?_; rintro e w5 ⟨rfl, hb5⟩
    rw [decide_eq_true (rfl : ([] : List Spm) = [])]
    (replace hb := hb.trans (hb5.mono hb.size)); clear hb5
    go_wp2_with fail
    go_ret
    exact ⟨by simp, hb⟩
end Go.Proofs.YtnaoagkelbjflaaGreatDoor
