/- The law of what is found. -/
import Derived.Test.YtnaoagkelbjflaaGreatDoorVc
set_option linter.unusedSimpArgs false
set_option linter.unusedVariables false
namespace Go.Proofs.YtnaoagkelbjflaaGreatDoor
open Go.RowKit

set_option maxRecDepth 100000 in
set_option maxHeartbeats 4000000 in
theorem finds_law (A : Option Addr) (len cap : Nat) (xs : List Spm) (i : Int) (da db : Int) (w : World) (hE : Env w) (hS : Sl w 0 w.heap.size 7 encS A len xs) (hlm : len ≤ maxLen) :
    Calls Tryz.prog 5 #[.slice A len cap, .int .i64 i, .agg #[.int .i64 da, .int .i64 db]] w fun e w' => e = .returned (.bool true) ∧ Below w.heap.size w w' := by
  have hE' := Lib.hid hE; clear hE
  go_enter Tryz.func5, Tryz.ntmps5
  by_cases hl : 100 < len
  · go_wp2_with fail
    refine (awake_any _ (hE'.out.step (one_alloc _ _))).mono ?_; rintro e w1 ⟨rfl, hb1⟩
    obtain ⟨hb, _, _⟩ := step1 (Below.refl _ w) hb1
    clear hb1
    go_wp2_with fail
    refine (awake_any _ (hE'.out.step hb)).mono ?_; rintro e w2 ⟨rfl, hb2⟩
    (replace hb := hb.trans (hb2.mono hb.size)); clear hb2
    go_wp2_with fail
    go_ret
    exact ⟨rfl, hb⟩
  have hl' : len ≤ 100 := by omega
  clear hl
  have HL : Hid (xs.length = len) := hS.len
  go_wp2_with fail
  refine (awake_any _ (hE'.out.step (one_alloc _ _))).mono ?_; rintro e w1 ⟨rfl, hb1⟩
  obtain ⟨hb, _, D⟩ := step1 (Below.refl _ w) hb1
  clear hb1
  replace hS := hS.up hb (Nat.le_refl _) (Nat.le_refl _)
  obtain ⟨x, b, hf⟩ : ∃ (x : Spm) (b : Bool), findV xs i = .tuple #[.agg #[.int .i64 x.id, .int .i64 x.obv, .int .i64 x.rev, .int .i64 x.os, .int .i64 x.rs, .int .i64 x.ax, .int .i64 x.wt], .bool b] := ⟨_, _, rfl⟩
  have HF := Lib.hid hf; clear hf
  go_wp2_with fail
  refine (sfind_any A len cap xs i _ (by omega) hS).mono ?_; rintro e w2 ⟨rfl, hb2⟩
  rw [HF.out]
  (replace hb := hb.trans (hb2.mono hb.size)); replace D := D.up hb2; replace hS := hS.up hb2 (Nat.le_refl _) (Nat.le_refl _); clear hb2
  go_wp2_with fail
  have hS' := hS.alloc (.cells #[.int .i64 x.id, .int .i64 x.obv, .int .i64 x.rev, .int .i64 x.os, .int .i64 x.rs, .int .i64 x.ax, .int .i64 x.wt] 23)
  refine (rfind_any A len cap xs i _ (by omega) hS').mono ?_; rintro e w3 ⟨rfl, hb3⟩
  clear hS'
  rw [HF.out]
  obtain ⟨hb23, hb', X⟩ := step1 (vs := [.int .i64 x.id, .int .i64 x.obv, .int .i64 x.rev, .int .i64 x.os, .int .i64 x.rs, .int .i64 x.ax, .int .i64 x.wt]) hb hb3
  clear hb hb3
  replace D := D.up hb23
  replace hS := hS.up hb23 (Nat.le_refl _) (Nat.le_refl _)
  clear hb23
  generalize w2.heap.size = bx at *
  have D0 := D.cell 0 _ rfl; have D1 := D.cell 1 _ rfl
  have Dlt := D.lt
  go_wp2_with fail
  have hS' := hS.alloc (.cells #[.int .i64 x.id, .int .i64 x.obv, .int .i64 x.rev, .int .i64 x.os, .int .i64 x.rs, .int .i64 x.ax, .int .i64 x.wt] 23)
  refine (sof_any A len cap xs da db _ (by omega) hS').mono ?_
  rintro e w4 ⟨⟨M, nm, cm, rfl, hM⟩, hb4⟩
  clear hS' D0 D1 Dlt
  obtain ⟨hb34, hb, Y⟩ := step1 (vs := [.int .i64 x.id, .int .i64 x.obv, .int .i64 x.rev, .int .i64 x.os, .int .i64 x.rs, .int .i64 x.ax, .int .i64 x.wt]) hb' hb4
  clear hb' hb4
  replace hM := hM.any
  replace D := D.up hb34
  replace X := X.up hb34
  replace hS := hS.up hb34 (Nat.le_refl _) (Nat.le_refl _)
  clear hb34
  generalize w3.heap.size = b3 at *
  have D0 := D.cell 0 _ rfl; have D1 := D.cell 1 _ rfl
  have Dlt := D.lt
  go_wp2_with fail
  refine (rof_any A len cap xs da db _ (by omega) hS).mono ?_
  rintro e w5 ⟨⟨N, nn, cn, rfl, hN⟩, hb5⟩
  replace hN := hN.any
  clear D0 D1 Dlt
  (replace hb := hb.trans (hb5.mono hb.size)); replace X := X.up hb5; replace Y := Y.up hb5; replace hM := hM.up hb5 (Nat.le_refl _) (Nat.le_refl _); clear hb5; (try clear X0); (try clear X1); (try clear X2); (try clear X3); (try clear X4); (try clear X5); (try clear X6); (try clear Xlt); (try clear Y0); (try clear Y1); (try clear Y2); (try clear Y3); (try clear Y4); (try clear Y5); (try clear Y6); (try clear Ylt)
  have hnm : nm ≤ 100 := by
    have := hM.len
    have h2 : (ofL xs da db).length ≤ xs.length := by
      unfold ofL
      split
      · rw [List.length_map]; have := List.length_filter_le (struck da db) (sortS xs); rw [sortS_len] at this; exact this
      · simp
    have := HL.out; omega
  have hnn : nn ≤ 100 := by have := hM.len; have := hN.len; omega
  generalize ofL xs da db = ol at *
  generalize ofE xs da db = oc at *
  have heq := eqSp_self x
  have X0 := X.cell 0 _ rfl; have X1 := X.cell 1 _ rfl; have X2 := X.cell 2 _ rfl; have X3 := X.cell 3 _ rfl; have X4 := X.cell 4 _ rfl; have X5 := X.cell 5 _ rfl; have X6 := X.cell 6 _ rfl; have Xlt := X.lt
  have Y0 := Y.cell 0 _ rfl; have Y1 := Y.cell 1 _ rfl; have Y2 := Y.cell 2 _ rfl; have Y3 := Y.cell 3 _ rfl; have Y4 := Y.cell 4 _ rfl; have Y5 := Y.cell 5 _ rfl; have Y6 := Y.cell 6 _ rfl; have Ylt := Y.lt
  go_wp2_with fail
  refine (ints_any M nm cm ol N nn cn ol _ (by omega) (by omega) hM hN).mono ?_; rintro e w6 ⟨rfl, hb6⟩
  rw [decide_eq_true (rfl : ol = ol)]
  (replace hb := hb.trans (hb6.mono hb.size)); clear hb6
  go_wp2_with fail
  go_ret
  exact ⟨by simp, hb⟩
end Go.Proofs.YtnaoagkelbjflaaGreatDoor
