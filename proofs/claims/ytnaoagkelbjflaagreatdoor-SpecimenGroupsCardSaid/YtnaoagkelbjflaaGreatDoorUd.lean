/- The law that a union may be grouped in either way. -/
import Derived.Test.YtnaoagkelbjflaaGreatDoorUa
set_option linter.unusedSimpArgs false
set_option linter.unusedVariables false
namespace Go.Proofs.YtnaoagkelbjflaaGreatDoor
open Go.RowKit

theorem below2 {w w1 w2 : World} (h : Below w.heap.size w w1) (h2 : Below w1.heap.size w1 w2) : Below w.heap.size w w2 := h.trans (h2.mono h.size)
theorem assoc_code {a b c : List Spm} (h1 : unionE a b = 0) (h2 : unionE b c = 0) : (unionE (unionL a b) c == 0) = (unionE a (unionL b c) == 0) ∧ unionL (unionL a b) c = unionL a (unionL b c) := by
  have h := union_assoc h1 h2
  by_cases hg : unionE (unionL a b) c = 0
  · obtain ⟨h3, h4⟩ := (h _).1 ⟨hg, rfl⟩
    exact ⟨by rw [hg, h3], h4.symm⟩
  · by_cases hh : unionE a (unionL b c) = 0
    · exact absurd ((h _).2 ⟨hh, rfl⟩).1 hg
    · exact ⟨by rw [beq_eq_false_iff_ne.2 hg, beq_eq_false_iff_ne.2 hh], by rw [union_zero_or _ _ hg, union_zero_or _ _ hh]⟩
set_option maxRecDepth 100000 in
set_option maxHeartbeats 4000000 in
theorem groups_law (A : Option Addr) (la ca : Nat) (a : List Spm) (B : Option Addr) (lb cb : Nat) (b : List Spm) (C : Option Addr) (lc cc : Nat) (c : List Spm) (w : World) (hE : Env w)
    (hA : Sl w 0 w.heap.size 7 encS A la a) (hla : la ≤ maxLen) (hB : Sl w 0 w.heap.size 7 encS B lb b) (hlb : lb ≤ maxLen) (hC : Sl w 0 w.heap.size 7 encS C lc c) (hlc : lc ≤ maxLen) :
    Calls Tryz.prog 8 #[.slice A la ca, .slice B lb cb, .slice C lc cc] w fun e w' => e = .returned (.bool true) ∧ Below w.heap.size w w' := by
  have hE' := Lib.hid hE; clear hE
  go_enter Tryz.func8, Tryz.ntmps8
  by_cases hl : la ≤ 64 ∧ lb ≤ 64 ∧ lc ≤ 64
  · obtain ⟨h1, h2, h3⟩ := hl
    go_wp2_with fail
    refine (awake_any _ hE'.out).mono ?_; rintro e w1 ⟨rfl, hb⟩
    have hA := hA.up hb (Nat.le_refl _) (Nat.le_refl _)
    have hB := hB.up hb (Nat.le_refl _) (Nat.le_refl _)
    have hC := hC.up hb (Nat.le_refl _) (Nat.le_refl _)
    go_wp2_with fail
    refine (sunion_any A la ca a B lb cb b _ (by omega) (by omega) hA hB).mono ?_
    rintro e w2 ⟨⟨X, nx, cx, rfl, hX⟩, hb2⟩
    replace hX := hX.any
    (replace hb := hb.trans (hb2.mono hb.size)); replace hA := hA.up hb2 (Nat.le_refl _) (Nat.le_refl _); replace hB := hB.up hb2 (Nat.le_refl _) (Nat.le_refl _); replace hC := hC.up hb2 (Nat.le_refl _) (Nat.le_refl _); clear hb2
    go_wp2_with fail
    refine (sunion_any B lb cb b C lc cc c _ (by omega) (by omega) hB hC).mono ?_
    rintro e w3 ⟨⟨Y, ny, cy, rfl, hY⟩, hb3⟩
    replace hY := hY.any
    (replace hb := hb.trans (hb3.mono hb.size)); replace hA := hA.up hb3 (Nat.le_refl _) (Nat.le_refl _); replace hB := hB.up hb3 (Nat.le_refl _) (Nat.le_refl _); replace hC := hC.up hb3 (Nat.le_refl _) (Nat.le_refl _); replace hX := hX.up hb3 (Nat.le_refl _) (Nat.le_refl _); clear hb3
    by_cases he : ¬ unionE a b = 0
    · have hd : (unionE a b != 0) = true := by simpa using he
      obtain rfl : 0 = nx := by have := hX.len; rw [union_zero_or _ _ he] at this; simpa using this
      generalize unionE a b = ec at *
      generalize unionE b c = fc at *
      clear he
      go_wp2_with fail
      go_ret
      exact ⟨rfl, hb⟩
    replace he := Classical.not_not.1 he
    by_cases hf : ¬ unionE b c = 0
    · have hd : (unionE b c != 0) = true := by simpa using hf
      obtain rfl : 0 = ny := by have := hY.len; rw [union_zero_or _ _ hf] at this; simpa using this
      rw [he]
      generalize unionE b c = fc at *
      clear hf
      go_wp2_with fail
      all_goals (go_ret; exact ⟨by simp, hb⟩)
    replace hf := Classical.not_not.1 hf
    obtain ⟨hgh, huv⟩ := assoc_code he hf
    rw [he, hf]
    have HUV := Lib.hid huv; clear huv
    have HGH := Lib.hid hgh; clear hgh
    have hnx : nx ≤ 64 := by have := hX.len; have h5 := ((chk_zero _).1 (union_chk he)).1; omega
    have hny : ny ≤ 64 := by have := hY.len; have h5 := ((chk_zero _).1 (union_chk hf)).1; omega
    clear he hf
    go_wp2_with fail
    refine (sunion_any X nx cx _ C lc cc c _ (by omega) (by omega) hX hC).mono ?_
    rintro e w4 ⟨⟨U, nu, cu, rfl, hU⟩, hb4⟩
    replace hU := hU.any
    (replace hb := hb.trans (hb4.mono hb.size)); replace hA := hA.up hb4 (Nat.le_refl _) (Nat.le_refl _); replace hY := hY.up hb4 (Nat.le_refl _) (Nat.le_refl _); clear hb4
    go_wp2_with fail
    refine (sunion_any A la ca a Y ny cy _ _ (by omega) (by omega) hA hY).mono ?_
    rintro e w5 ⟨⟨V, nv, cv, rfl, hV⟩, hb5⟩
    replace hV := hV.any
    (replace hb := hb.trans (hb5.mono hb.size)); replace hU := hU.up hb5 (Nat.le_refl _) (Nat.le_refl _); clear hb5
    have hnu : nu ≤ 64 := by
      have := hU.len
      by_cases h : unionE (unionL a b) c = 0
      · have h5 := ((chk_zero _).1 (union_chk h)).1; omega
      · rw [union_zero_or _ _ h] at this; simp at this; omega
    rw [← HUV.out] at hV
    have hnv : nv ≤ 64 := by have := hU.len; have := hV.len; omega
    generalize unionL (unionL a b) c = uv at *
    have hgh := HGH.out
    clear HGH HUV
    generalize unionE (unionL a b) c = g at *
    generalize unionE a (unionL b c) = h at *
    cases hh : (h == 0)
    · rw [hh] at hgh
      go_wp2_with fail
      refine (specs_any U nu cu uv V nv cv uv _ (by omega) (by omega) hU hV).mono ?_; rintro e w6 ⟨rfl, hb6⟩
      rw [decide_eq_true (rfl : uv = uv)]
      (replace hb := hb.trans (hb6.mono hb.size)); clear hb6
      go_wp2_with fail
      go_ret
      exact ⟨rfl, hb⟩
    · rw [hh] at hgh
      go_wp2_with fail
      refine (specs_any U nu cu uv V nv cv uv _ (by omega) (by omega) hU hV).mono ?_; rintro e w6 ⟨rfl, hb6⟩
      rw [decide_eq_true (rfl : uv = uv)]
      (replace hb := hb.trans (hb6.mono hb.size)); clear hb6
      go_wp2_with fail
      go_ret
      exact ⟨rfl, hb⟩
  · go_wp2_with (go_at_call 12; refine (awake_any _ (by first | exact hE'.out | exact hE'.out.step (by assumption))).mono ?_; rintro e w1 ⟨rfl, hb⟩)
    all_goals (go_ret; exact ⟨rfl, below2 (by assumption) hb⟩)
end Go.Proofs.YtnaoagkelbjflaaGreatDoor
