/- The law of what is exported. -/
import Derived.Test.YtnaoagkelbjflaaGreatDoorVb
set_option linter.unusedSimpArgs false
set_option linter.unusedVariables false
namespace Go.Proofs.YtnaoagkelbjflaaGreatDoor
open Go.RowKit

theorem expL_len (xs : List Spm) : (expL xs).length ≤ 4096 := by
  by_cases h : chk xs = 0
  · exact (imp_exp h).short
  · unfold expL; rw [if_neg h]; simp
theorem imp_form {w : World} {s : List UInt8} {e : Ending} {w' : World} (h : ImpOut w s e w') : (∃ A n c code, e = .returned (.tuple #[.slice A n c, .int .i64 code])) ∧ Below w.heap.size w w' := by
  obtain ⟨⟨l, hl, A, n, c, he, hS⟩ | ⟨hn, he⟩, hb⟩ := h
  · exact ⟨⟨A, n, c, 0, he⟩, hb⟩
  · exact ⟨⟨none, 0, 0, impCode s, he⟩, hb⟩
theorem imp_yes {w : World} {s : List UInt8} {l : List Spm} {e : Ending} {w' : World} (hl : ImpOk s l) (h : ImpOut w s e w') : (∃ A n c, e = .returned (.tuple #[.slice A n c, .int .i64 0]) ∧ Sl w' w.heap.size w'.heap.size 7 encS A n l) ∧ Below w.heap.size w w' := by
  obtain ⟨⟨l', hl', A, n, c, he, hS⟩ | ⟨hn, he⟩, hb⟩ := h
  · obtain rfl := imp_unique hl hl'
    exact ⟨⟨A, n, c, he, hS⟩, hb⟩
  · exact absurd hl (hn _)

set_option maxRecDepth 100000 in
set_option maxHeartbeats 4000000 in
theorem exports_law (A : Option Addr) (len cap : Nat) (xs : List Spm) (w : World) (hE : Env w) (hS : Sl w 0 w.heap.size 7 encS A len xs) (hlm : len ≤ maxLen) :
    Calls Tryz.prog 9 #[.slice A len cap] w fun e w' => e = .returned (.bool true) ∧ Below w.heap.size w w' := by
  have hE' := Lib.hid hE; clear hE
  go_enter Tryz.func9, Tryz.ntmps9
  by_cases hl : 100 < len
  · go_wp2_with fail
    refine (awake_any _ hE'.out).mono ?_; rintro e w1 ⟨rfl, hb⟩
    go_wp2_with fail
    refine (awake_any _ (hE'.out.step hb)).mono ?_; rintro e w2 ⟨rfl, hb2⟩
    (replace hb := hb.trans (hb2.mono hb.size)); clear hb2
    go_wp2_with fail
    go_ret
    exact ⟨rfl, hb⟩
  have hl' : len ≤ 100 := by omega
  clear hl
  have HL : Hid (xs.length = len) := hS.len
  go_wp2_with fail
  refine (awake_any _ hE'.out).mono ?_; rintro e w1 ⟨rfl, hb⟩
  replace hS := hS.up hb (Nat.le_refl _) (Nat.le_refl _)
  go_wp2_with fail
  refine (sexport_any A len cap xs _ (hE'.out.step hb) (by omega) hS).mono ?_; rintro e w2 ⟨rfl, hb2⟩
  (replace hb := hb.trans (hb2.mono hb.size)); replace hS := hS.up hb2 (Nat.le_refl _) (Nat.le_refl _); clear hb2
  go_wp2_with fail
  refine (rexport_any A len cap xs _ (by omega) hS).mono ?_; rintro e w3 ⟨rfl, hb3⟩
  (replace hb := hb.trans (hb3.mono hb.size)); replace hS := hS.up hb3 (Nat.le_refl _) (Nat.le_refl _); clear hb3
  have HXL := Lib.hid (expL_len xs)
  go_wp2_with fail
  refine (simport_any (expL xs) _ (hE'.out.step hb) (by have := HXL.out; omega)).mono ?_
  intro e w4 himp
  by_cases hc : chk xs = 0
  · have hok := imp_exp hc
    obtain ⟨⟨M, nm, cm, rfl, hM⟩, hb4⟩ := imp_yes hok himp
    replace hM := hM.any
    clear himp hok
    (replace hb := hb.trans (hb4.mono hb.size)); replace hS := hS.up hb4 (Nat.le_refl _) (Nat.le_refl _); clear hb4
    have hsl : srtL xs = sortS xs := by unfold srtL; rw [if_pos hc]
    have HSL := Lib.hid hsl; clear hsl
    have hnm : nm ≤ 100 := by have := hM.len; rw [sortS_len] at this; have := HL.out; omega
    rw [hc]
    have HC := Lib.hid hc; clear hc
    go_wp2_with fail
    refine (rsort_any A len cap xs _ (by omega) hS).mono ?_
    rintro e w5 ⟨⟨T, nt, ct, rfl, hT⟩, hb5⟩
    rw [HSL.out] at hT
    replace hT := hT.any
    rw [HC.out]
    (replace hb := hb.trans (hb5.mono hb.size)); replace hM := hM.up hb5 (Nat.le_refl _) (Nat.le_refl _); clear hb5
    have hnt : nt ≤ 100 := by have := hT.len; rw [sortS_len] at this; have := HL.out; omega
    generalize sortS xs = zs at *
    go_wp2_with fail
    refine (specs_any M nm cm zs T nt ct zs _ (by omega) (by omega) hM hT).mono ?_; rintro e w6 ⟨rfl, hb6⟩
    rw [decide_eq_true (rfl : zs = zs)]
    (replace hb := hb.trans (hb6.mono hb.size)); clear hb6
    go_wp2_with fail
    go_ret
    exact ⟨rfl, hb⟩
  · obtain ⟨⟨M, nm, cm, code, rfl⟩, hb4⟩ := imp_form himp
    clear himp
    (replace hb := hb.trans (hb4.mono hb.size)); replace hS := hS.up hb4 (Nat.le_refl _) (Nat.le_refl _); clear hb4
    have hd : (chk xs != 0) = true := by simpa using hc
    have HR := Lib.hid (rsort_any A len cap xs w4 (by omega) hS)
    generalize chk xs = c at hd ⊢
    clear hc
    go_wp2_with fail
    refine HR.out.mono ?_
    rintro e w5 ⟨⟨T, nt, ct, rfl, hT⟩, hb5⟩
    (replace hb := hb.trans (hb5.mono hb.size)); clear hb5
    go_wp2_with fail
    go_ret
    exact ⟨rfl, hb⟩
end Go.Proofs.YtnaoagkelbjflaaGreatDoor
