/- The laws of one specimen: its text, and what is read from a text. -/
import Derived.Test.YtnaoagkelbjflaaGreatDoorSz
import Derived.Test.YtnaoagkelbjflaaGreatDoorSkt
import Derived.Test.YtnaoagkelbjflaaGreatDoorSp
set_option linter.unusedSimpArgs false
set_option linter.unusedVariables false
namespace Go.Proofs.YtnaoagkelbjflaaGreatDoor
open Go.RowKit

theorem keepCe {w0 w w1 : World} {b o : Nat} {x : Value} (h : w.cell? ⟨b, o, none⟩ = some x) (hS : Below w0.heap.size w0 w) (hz : b < w0.heap.size) (hb : Below w.heap.size w w1) : w1.cell? ⟨b, o, none⟩ = some x := by
  have := hS.size
  exact (hb.cell (p := ⟨b, o, none⟩) (by show b < _; omega)).trans h
theorem keep7 {w0 w w1 : World} {p : Nat} {a0 a1 a2 a3 a4 a5 a6 : Value} (hp : p < w0.heap.size)
    (H : w.cell? ⟨p, 0, none⟩ = some a0 ∧ w.cell? ⟨p, 1, none⟩ = some a1 ∧ w.cell? ⟨p, 2, none⟩ = some a2 ∧ w.cell? ⟨p, 3, none⟩ = some a3 ∧ w.cell? ⟨p, 4, none⟩ = some a4 ∧ w.cell? ⟨p, 5, none⟩ = some a5 ∧ w.cell? ⟨p, 6, none⟩ = some a6 ∧ Below w0.heap.size w0 w) (hb : Below w.heap.size w w1) :
    w1.cell? ⟨p, 0, none⟩ = some a0 ∧ w1.cell? ⟨p, 1, none⟩ = some a1 ∧ w1.cell? ⟨p, 2, none⟩ = some a2 ∧ w1.cell? ⟨p, 3, none⟩ = some a3 ∧ w1.cell? ⟨p, 4, none⟩ = some a4 ∧ w1.cell? ⟨p, 5, none⟩ = some a5 ∧ w1.cell? ⟨p, 6, none⟩ = some a6 ∧ Below w0.heap.size w0 w1 := by
  obtain ⟨x0, x1, x2, x3, x4, x5, x6, xb⟩ := H
  have := xb.size
  exact ⟨keepCe x0 xb hp hb, keepCe x1 xb hp hb, keepCe x2 xb hp hb, keepCe x3 xb hp hb, keepCe x4 xb hp hb, keepCe x5 xb hp hb, keepCe x6 xb hp hb, xb.trans (hb.mono this)⟩
theorem parseSp_nil : parseSp [] = none := by decide +kernel
theorem textSp_bad {x : Spm} (h : validS x = false) : textSp x = [] := by unfold textSp; rw [if_neg (by rw [h]; decide)]
theorem eqSp_self (x : Spm) (W : World) : (binOp .eql 23 (.agg #[.int .i64 x.id, .int .i64 x.obv, .int .i64 x.rev, .int .i64 x.os, .int .i64 x.rs, .int .i64 x.ax, .int .i64 x.wt]) (.agg #[.int .i64 x.id, .int .i64 x.obv, .int .i64 x.rev, .int .i64 x.os, .int .i64 x.rs, .int .i64 x.ax, .int .i64 x.wt])).run Tryz.prog W = .ok (.bool true) W := (eqSpmV x x W).trans (by simp)

set_option maxRecDepth 100000 in
set_option maxHeartbeats 4000000 in
theorem texts_law (x : Spm) (w : World) (hE : Env w) :
    Calls Tryz.prog 3 #[.agg #[.int .i64 x.id, .int .i64 x.obv, .int .i64 x.rev, .int .i64 x.os, .int .i64 x.rs, .int .i64 x.ax, .int .i64 x.wt]] w fun e w' => e = .returned (.bool true) ∧ Below w.heap.size w w' := by
  have hE' := Lib.hid hE; clear hE
  go_enter Tryz.func3, Tryz.ntmps3
  go_wp2_with fail
  refine (awake_any _ (hE'.out.step (one_alloc _ _))).mono ?_; rintro e w1 ⟨rfl, hb1⟩
  obtain ⟨hb, _, X⟩ := step1 (vs := [.int .i64 x.id, .int .i64 x.obv, .int .i64 x.rev, .int .i64 x.os, .int .i64 x.rs, .int .i64 x.ax, .int .i64 x.wt]) (Below.refl _ _) hb1
  clear hb1
  have X0 := X.cell 0 _ rfl; have X1 := X.cell 1 _ rfl; have X2 := X.cell 2 _ rfl; have X3 := X.cell 3 _ rfl; have X4 := X.cell 4 _ rfl; have X5 := X.cell 5 _ rfl; have X6 := X.cell 6 _ rfl; have Xlt := X.lt
  go_wp2_with fail
  refine (stext_any x _ (hE'.out.step hb)).mono ?_; rintro e w2 ⟨rfl, hb2⟩
  (replace hb := hb.trans (hb2.mono hb.size)); replace X := X.up hb2; clear hb2; (try clear X0); (try clear X1); (try clear X2); (try clear X3); (try clear X4); (try clear X5); (try clear X6); (try clear Xlt)
  have X0 := X.cell 0 _ rfl; have X1 := X.cell 1 _ rfl; have X2 := X.cell 2 _ rfl; have X3 := X.cell 3 _ rfl; have X4 := X.cell 4 _ rfl; have X5 := X.cell 5 _ rfl; have X6 := X.cell 6 _ rfl; have Xlt := X.lt
  have HE2 : Hid (∀ V, Below w2.heap.size w2 V → Env V) := fun V hV => hE'.out.step (hb.trans (hV.mono hb.size))
  cases hv : validS x with
  | false =>
    have HT := Lib.hid (textSp_bad hv)
    rw [HT.out]
    have HV := Lib.hid hv; clear hv
    go_wp2_with fail
    go_region_held3 (fun V => V.cell? ⟨w.heap.size, 0, none⟩ = some (.int .i64 x.id) ∧ V.cell? ⟨w.heap.size, 1, none⟩ = some (.int .i64 x.obv) ∧ V.cell? ⟨w.heap.size, 2, none⟩ = some (.int .i64 x.rev) ∧ V.cell? ⟨w.heap.size, 3, none⟩ = some (.int .i64 x.os) ∧ V.cell? ⟨w.heap.size, 4, none⟩ = some (.int .i64 x.rs) ∧ V.cell? ⟨w.heap.size, 5, none⟩ = some (.int .i64 x.ax) ∧ V.cell? ⟨w.heap.size, 6, none⟩ = some (.int .i64 x.wt) ∧ Below w2.heap.size w2 V)
      (first | exact ⟨X0, X1, X2, X3, X4, X5, X6, Below.drew (Below.refl _ _)⟩ | exact keep7 Xlt (by assumption) (by assumption) | go_keep)
      (first
        | (go_at_call 14; refine (svalidb_any x _).mono ?_; rintro e w3 ⟨rfl, hb3⟩; rw [HV.out])
        | (go_at_call 15; refine (rsvalidb_any x _).mono ?_; rintro e w3 ⟨rfl, hb3⟩; rw [HV.out])
        | (go_at_call 16; refine (rstext_any x _).mono ?_; rintro e w3 ⟨rfl, hb3⟩; rw [HT.out]))
    rename_i hH
    have hb3 : Below w2.heap.size w2 w3 := hH.2.2.2.2.2.2.2
    clear hH
    (replace hb := hb.trans (hb3.mono hb.size)); replace X := X.up hb3; clear hb3; (try clear X0); (try clear X1); (try clear X2); (try clear X3); (try clear X4); (try clear X5); (try clear X6); (try clear Xlt)
    have X0 := X.cell 0 _ rfl; have X1 := X.cell 1 _ rfl; have X2 := X.cell 2 _ rfl; have X3 := X.cell 3 _ rfl; have X4 := X.cell 4 _ rfl; have X5 := X.cell 5 _ rfl; have X6 := X.cell 6 _ rfl; have Xlt := X.lt
    go_wp2_with fail
    refine (sparse_any [] _ (by decide) (hE'.out.step hb)).mono ?_; rintro e w4 ⟨rfl, hb4⟩
    rw [parseSpV_none parseSp_nil]
    (replace hb := hb.trans (hb4.mono hb.size)); replace X := X.up hb4; clear hb4; (try clear X0); (try clear X1); (try clear X2); (try clear X3); (try clear X4); (try clear X5); (try clear X6); (try clear Xlt)
    have X0 := X.cell 0 _ rfl; have X1 := X.cell 1 _ rfl; have X2 := X.cell 2 _ rfl; have X3 := X.cell 3 _ rfl; have X4 := X.cell 4 _ rfl; have X5 := X.cell 5 _ rfl; have X6 := X.cell 6 _ rfl; have Xlt := X.lt
    go_wp2_with fail
    refine (rsvalidb_any x _).mono ?_; rintro e w5 ⟨rfl, hb5⟩
    rw [HV.out]
    obtain ⟨hb45, hb', Y⟩ := step1 hb hb5
    replace X := X.up hb45
    clear hb hb45 hb5 X0 X1 X2 X3 X4 X5 X6 Xlt
    have X0 := X.cell 0 _ rfl; have X1 := X.cell 1 _ rfl; have X2 := X.cell 2 _ rfl; have X3 := X.cell 3 _ rfl; have X4 := X.cell 4 _ rfl; have X5 := X.cell 5 _ rfl; have X6 := X.cell 6 _ rfl; have Xlt := X.lt
    have Y0 := Y.cell 0 _ rfl; have Y1 := Y.cell 1 _ rfl; have Y2 := Y.cell 2 _ rfl; have Y3 := Y.cell 3 _ rfl; have Y4 := Y.cell 4 _ rfl; have Y5 := Y.cell 5 _ rfl; have Y6 := Y.cell 6 _ rfl; have Ylt := Y.lt
    go_wp2_with fail
    go_ret
    exact ⟨rfl, hb'⟩
  | true =>
    have HP := Lib.hid (parseSp_text x hv)
    have htl := parseSp_len HP.out
    have HV := Lib.hid hv; clear hv
    go_wp2_with fail
    go_region_held3 (fun V => V.cell? ⟨w.heap.size, 0, none⟩ = some (.int .i64 x.id) ∧ V.cell? ⟨w.heap.size, 1, none⟩ = some (.int .i64 x.obv) ∧ V.cell? ⟨w.heap.size, 2, none⟩ = some (.int .i64 x.rev) ∧ V.cell? ⟨w.heap.size, 3, none⟩ = some (.int .i64 x.os) ∧ V.cell? ⟨w.heap.size, 4, none⟩ = some (.int .i64 x.rs) ∧ V.cell? ⟨w.heap.size, 5, none⟩ = some (.int .i64 x.ax) ∧ V.cell? ⟨w.heap.size, 6, none⟩ = some (.int .i64 x.wt) ∧ Below w2.heap.size w2 V)
      (first | exact ⟨X0, X1, X2, X3, X4, X5, X6, Below.drew (Below.refl _ _)⟩ | exact keep7 Xlt (by assumption) (by assumption) | go_keep)
      (first
        | (go_at_call 14; refine (svalidb_any x _).mono ?_; rintro e w3 ⟨rfl, hb3⟩; rw [HV.out])
        | (go_at_call 15; refine (rsvalidb_any x _).mono ?_; rintro e w3 ⟨rfl, hb3⟩; rw [HV.out])
        | (go_at_call 16; refine (rstext_any x _).mono ?_; rintro e w3 ⟨rfl, hb3⟩))
    rename_i hH
    have hb3 : Below w2.heap.size w2 w3 := hH.2.2.2.2.2.2.2
    clear hH
    (replace hb := hb.trans (hb3.mono hb.size)); replace X := X.up hb3; clear hb3; (try clear X0); (try clear X1); (try clear X2); (try clear X3); (try clear X4); (try clear X5); (try clear X6); (try clear Xlt)
    have X0 := X.cell 0 _ rfl; have X1 := X.cell 1 _ rfl; have X2 := X.cell 2 _ rfl; have X3 := X.cell 3 _ rfl; have X4 := X.cell 4 _ rfl; have X5 := X.cell 5 _ rfl; have X6 := X.cell 6 _ rfl; have Xlt := X.lt
    go_wp2_with fail
    refine (sparse_any (textSp x) _ (by omega) (hE'.out.step hb)).mono ?_; rintro e w4 ⟨rfl, hb4⟩
    rw [parseSpV_some HP.out]
    have heq := eqSp_self x
    (replace hb := hb.trans (hb4.mono hb.size)); replace X := X.up hb4; clear hb4; (try clear X0); (try clear X1); (try clear X2); (try clear X3); (try clear X4); (try clear X5); (try clear X6); (try clear Xlt)
    have X0 := X.cell 0 _ rfl; have X1 := X.cell 1 _ rfl; have X2 := X.cell 2 _ rfl; have X3 := X.cell 3 _ rfl; have X4 := X.cell 4 _ rfl; have X5 := X.cell 5 _ rfl; have X6 := X.cell 6 _ rfl; have Xlt := X.lt
    go_wp2_with fail
    refine (rsvalidb_any x _).mono ?_; rintro e w5 ⟨rfl, hb5⟩
    rw [HV.out]
    obtain ⟨hb45, hb', Y⟩ := step1 hb hb5
    replace X := X.up hb45
    clear hb hb45 hb5 X0 X1 X2 X3 X4 X5 X6 Xlt
    have X0 := X.cell 0 _ rfl; have X1 := X.cell 1 _ rfl; have X2 := X.cell 2 _ rfl; have X3 := X.cell 3 _ rfl; have X4 := X.cell 4 _ rfl; have X5 := X.cell 5 _ rfl; have X6 := X.cell 6 _ rfl; have Xlt := X.lt
    have Y0 := Y.cell 0 _ rfl; have Y1 := Y.cell 1 _ rfl; have Y2 := Y.cell 2 _ rfl; have Y3 := Y.cell 3 _ rfl; have Y4 := Y.cell 4 _ rfl; have Y5 := Y.cell 5 _ rfl; have Y6 := Y.cell 6 _ rfl; have Ylt := Y.lt
    go_wp2_with fail
    go_ret
    exact ⟨rfl, hb'⟩
end Go.Proofs.YtnaoagkelbjflaaGreatDoor
