/- The law of the union. -/
import Derived.Test.YtnaoagkelbjflaaGreatDoorVd
set_option linter.unusedSimpArgs false
set_option linter.unusedVariables false
namespace Go.Proofs.YtnaoagkelbjflaaGreatDoor
open Go.RowKit

theorem unionL_len (a b : List Spm) : (unionL a b).length ≤ 64 := by
  by_cases h : unionE a b = 0
  · exact ((chk_zero _).1 (union_chk h)).1
  · rw [union_zero_or _ _ h]; simp
set_option maxRecDepth 100000 in
set_option maxHeartbeats 4000000 in
theorem unions_law (A : Option Addr) (la ca : Nat) (a : List Spm) (B : Option Addr) (lb cb : Nat) (b : List Spm) (w : World) (hE : Env w)
    (hA : Sl w 0 w.heap.size 7 encS A la a) (hla : la ≤ maxLen) (hB : Sl w 0 w.heap.size 7 encS B lb b) (hlb : lb ≤ maxLen) :
    Calls Tryz.prog 7 #[.slice A la ca, .slice B lb cb] w fun e w' => e = .returned (.bool true) ∧ Below w.heap.size w w' := by
  have hE' := Lib.hid hE; clear hE
  go_enter Tryz.func7, Tryz.ntmps7
  by_cases hl : la ≤ 100 ∧ lb ≤ 100
  · obtain ⟨h1, h2⟩ := hl
    go_wp2_with fail
    refine (awake_any _ hE'.out).mono ?_; rintro e w1 ⟨rfl, hb⟩
    have hA := hA.up hb (Nat.le_refl _) (Nat.le_refl _)
    have hB := hB.up hb (Nat.le_refl _) (Nat.le_refl _)
    go_wp2_with fail
    refine (sunion_any A la ca a B lb cb b _ (by omega) (by omega) hA hB).mono ?_
    rintro e w2 ⟨⟨U, nu, cu, rfl, hU⟩, hb2⟩
    replace hU := hU.any
    (replace hb := hb.trans (hb2.mono hb.size)); replace hA := hA.up hb2 (Nat.le_refl _) (Nat.le_refl _); replace hB := hB.up hb2 (Nat.le_refl _) (Nat.le_refl _); clear hb2
    go_wp2_with fail
    refine (runion_any A la ca a B lb cb b _ (by omega) (by omega) hA hB).mono ?_
    rintro e w3 ⟨⟨W, nw, cw, rfl, hW⟩, hb3⟩
    replace hW := hW.any
    (replace hb := hb.trans (hb3.mono hb.size)); replace hA := hA.up hb3 (Nat.le_refl _) (Nat.le_refl _); replace hB := hB.up hb3 (Nat.le_refl _) (Nat.le_refl _); replace hU := hU.up hb3 (Nat.le_refl _) (Nat.le_refl _); clear hb3
    go_wp2_with fail
    refine (sunion_any B lb cb b A la ca a _ (by omega) (by omega) hB hA).mono ?_
    rintro e w4 ⟨⟨V, nv, cv, rfl, hV⟩, hb4⟩
    replace hV := hV.any
    (replace hb := hb.trans (hb4.mono hb.size)); replace hU := hU.up hb4 (Nat.le_refl _) (Nat.le_refl _); replace hW := hW.up hb4 (Nat.le_refl _) (Nat.le_refl _); clear hb4
    have hnu : nu ≤ 64 := by have := hU.len; have := unionL_len a b; omega
    have hnw : nw ≤ 64 := by have := hW.len; have := unionL_len a b; omega
    have hnv : nv ≤ 64 := by have := hV.len; have := unionL_len b a; omega
    by_cases he : unionE a b = 0
    · obtain ⟨hg, huv⟩ := union_comm he rfl
      rw [huv] at hV
      rw [he, hg]
      clear he hg huv
      generalize unionL a b = ul at *
      go_wp2_with fail
      refine (specs_any U nu cu ul W nw cw ul _ (by omega) (by omega) hU hW).mono ?_; rintro e w5 ⟨rfl, hb5⟩
      rw [decide_eq_true (rfl : ul = ul)]
      (replace hb := hb.trans (hb5.mono hb.size)); replace hU := hU.up hb5 (Nat.le_refl _) (Nat.le_refl _); replace hV := hV.up hb5 (Nat.le_refl _) (Nat.le_refl _); clear hb5
      go_wp2_with fail
      refine (specs_any U nu cu ul V nv cv ul _ (by omega) (by omega) hU hV).mono ?_; rintro e w6 ⟨rfl, hb6⟩
      rw [decide_eq_true (rfl : ul = ul)]
      (replace hb := hb.trans (hb6.mono hb.size)); clear hb6
      go_wp2_with fail
      go_ret
      exact ⟨rfl, hb⟩
    · have hd : (unionE a b != 0) = true := by simpa using he
      generalize unionL a b = ul at *
      generalize unionE a b = ec at *
      generalize unionE b a = gc at *
      clear he
      go_wp2_with fail
      refine (specs_any U nu cu ul W nw cw ul _ (by omega) (by omega) hU hW).mono ?_; rintro e w5 ⟨rfl, hb5⟩
      rw [decide_eq_true (rfl : ul = ul)]
      (replace hb := hb.trans (hb5.mono hb.size)); clear hb5
      go_wp2_with fail
      go_ret
      exact ⟨by simp, hb⟩
  · go_wp2_with (go_at_call 12; refine (awake_any _ (by first | exact hE'.out | exact hE'.out.step (by assumption))).mono ?_; rintro e w1 ⟨rfl, hb⟩)
    all_goals (go_ret; exact ⟨rfl, below3 (by assumption) hb⟩)
end Go.Proofs.YtnaoagkelbjflaaGreatDoor
