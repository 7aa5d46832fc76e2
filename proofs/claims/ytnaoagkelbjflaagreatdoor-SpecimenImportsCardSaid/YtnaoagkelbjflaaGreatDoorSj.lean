/- The text of a specimen: the program's. -/
import Derived.Test.YtnaoagkelbjflaaGreatDoorSi
set_option linter.unusedSimpArgs false
set_option linter.unusedVariables false
namespace Go.Proofs.YtnaoagkelbjflaaGreatDoor
open Go.RowKit

theorem keep2 {w0 w w1 : World} {p : Nat} {i j : Nat} {x y : Value} (hp : p < w0.heap.size) (h : w.cell? ⟨p, i, none⟩ = some x ∧ w.cell? ⟨p, j, none⟩ = some y ∧ Below w0.heap.size w0 w) (hb : Below w.heap.size w w1) :
    w1.cell? ⟨p, i, none⟩ = some x ∧ w1.cell? ⟨p, j, none⟩ = some y ∧ Below w0.heap.size w0 w1 := by
  have hz := h.2.2.size
  exact ⟨(hb.cell (p := ⟨p, i, none⟩) (by show p < _; omega)).trans h.1, (hb.cell (p := ⟨p, j, none⟩) (by show p < _; omega)).trans h.2.1, h.2.2.trans (hb.mono hz)⟩
theorem env2 {w0 w : World} {p i j : Nat} {x y : Value} (hE : Env w0) (h : w.cell? ⟨p, i, none⟩ = some x ∧ w.cell? ⟨p, j, none⟩ = some y ∧ Below w0.heap.size w0 w) : Env w := hE.step h.2.2
theorem pairS_len (o r : Lab) : (pairS o r).length ≤ 11 := by
  unfold pairS
  split
  · have := labS_len o
    have := labS_len r
    simp only [List.length_append, List.length_cons]; omega
  · simp
theorem add_to {P : Program} (x y z : List UInt8) (hz : x ++ y = z) (h : x.length + y.length ≤ 1000000) : ∀ W, (Op.stringOp .add ⟨x.toArray⟩ ⟨y.toArray⟩).run P W = .ok (.string ⟨z.toArray⟩) W := fun W => by
  rw [add_lists x y h W, hz]
theorem text_lists {P : Program} (a p h g : List UInt8) (hl : a.length + p.length + h.length + g.length ≤ 900000) :
    (∀ W, (Op.stringOp .add ⟨a.toArray⟩ ⟨#[32]⟩).run P W = .ok (.string ⟨(a ++ [32]).toArray⟩) W) ∧
    (∀ W, (Op.stringOp .add ⟨(a ++ [32]).toArray⟩ ⟨p.toArray⟩).run P W = .ok (.string ⟨(a ++ 32 :: p).toArray⟩) W) ∧
    (∀ W, (Op.stringOp .add ⟨(a ++ 32 :: p).toArray⟩ ⟨#[32]⟩).run P W = .ok (.string ⟨(a ++ 32 :: (p ++ [32])).toArray⟩) W) ∧
    (∀ W, (Op.stringOp .add ⟨(a ++ 32 :: (p ++ [32])).toArray⟩ ⟨h.toArray⟩).run P W = .ok (.string ⟨(a ++ 32 :: (p ++ 32 :: h)).toArray⟩) W) ∧
    (∀ W, (Op.stringOp .add ⟨(a ++ 32 :: (p ++ 32 :: h)).toArray⟩ ⟨#[104, 32]⟩).run P W = .ok (.string ⟨(a ++ 32 :: (p ++ 32 :: (h ++ [104, 32]))).toArray⟩) W) ∧
    (∀ W, (Op.stringOp .add ⟨(a ++ 32 :: (p ++ 32 :: (h ++ [104, 32]))).toArray⟩ ⟨g.toArray⟩).run P W = .ok (.string ⟨(a ++ 32 :: (p ++ 32 :: (h ++ 104 :: 32 :: g))).toArray⟩) W) :=
  ⟨add_lists _ _ (by simp; omega), add_to _ _ _ (by simp) (by simp; omega), add_to _ _ _ (by simp) (by simp; omega), add_to _ _ _ (by simp) (by simp; omega), add_to _ _ _ (by simp) (by simp; omega), add_to _ _ _ (by simp) (by simp; omega)⟩
set_option maxRecDepth 100000 in
set_option maxHeartbeats 1000000 in
theorem stext_any (x : Spm) (w : World) (hE : Env w) :
    Calls Tryz.prog 13 #[.agg #[.int .i64 x.id, .int .i64 x.obv, .int .i64 x.rev, .int .i64 x.os, .int .i64 x.rs, .int .i64 x.ax, .int .i64 x.wt]] w fun e w' => e = .returned (.string ⟨(textSp x).toArray⟩) ∧ Below w.heap.size w w' := by
  by_cases hv : validS x = true
  · obtain ⟨⟨o1, o2⟩, ⟨r1, r2⟩, ⟨s1, s2⟩, ⟨t1, t2⟩, ⟨i1, i2⟩, ⟨a1, a2⟩, ⟨g1, g2⟩⟩ := (validS_iff x).1 hv
    have hp := sp_pairOk hv
    have HT := Lib.hid (textSp_ok hv)
    have HV := Lib.hid hv; clear hv
    have hpl := pairS_len (labO x) (labR x)
    have HPV : Hid (pairV (labO x) (labR x) = .tuple #[.string ⟨(pairS (labO x) (labR x)).toArray⟩, .int .i64 0]) := by
      show pairV _ _ = _
      unfold pairV pairE; rw [if_pos hp]
    clear hp
    have hh : 1 ≤ hourS x ∧ hourS x ≤ 12 := by unfold hourS; split <;> omega
    obtain ⟨hh1, hh2⟩ := hh
    have HH : Hid (hourS x = if x.ax = 0 then 12 else x.ax) := rfl
    obtain ⟨k, hk⟩ := Int.eq_ofNat_of_zero_le (show 0 ≤ x.wt by omega)
    have HK := Lib.hid hk; clear hk
    have hk2 : k ≤ 200000 := by have := HK.out; omega
    have hgl := gramS_len k hk2
    have hil : (Lib.itoa x.id).length ≤ 4 := by rw [itoa_nat _ (by omega)]; exact decDigits_le 3 _ (by omega)
    have hhl : (Lib.itoa (hourS x)).length ≤ 2 := by rw [itoa_nat _ (by omega)]; exact decDigits_le 1 _ (by omega)
    obtain ⟨q1, q2, q3, q4, q5, q6⟩ := text_lists (P := Tryz.prog) (Lib.itoa x.id) (pairS (labO x) (labR x)) (Lib.itoa (hourS x)) (gramS k) (by omega)
    go_enter Tryz.func13, Tryz.ntmps13
    go_wp2_with fail
    refine (svalidb_any x _).mono ?_; rintro e w1 ⟨rfl, hb1⟩
    obtain ⟨_, hb, X⟩ := step1 (vs := [.int .i64 x.id, .int .i64 x.obv, .int .i64 x.rev, .int .i64 x.os, .int .i64 x.rs, .int .i64 x.ax, .int .i64 x.wt]) (Below.refl _ _) hb1
    clear hb1
    rw [HV.out]
    have X0 := X.cell 0 _ rfl; have X1 := X.cell 1 _ rfl; have X2 := X.cell 2 _ rfl; have X3 := X.cell 3 _ rfl; have X4 := X.cell 4 _ rfl; have X5 := X.cell 5 _ rfl; have X6 := X.cell 6 _ rfl; have Xlt := X.lt
    go_wp2_with fail
    refine (lpair_any (labO x) (labR x) _ (hE.step hb)).mono ?_; rintro e w2 ⟨rfl, hb2⟩
    rw [HPV.out]
    (replace hb := hb.trans (hb2.mono hb.size)); replace X := X.up hb2; clear hb2; (try clear X0); (try clear X1); (try clear X2); (try clear X3); (try clear X4); (try clear X5); (try clear X6); (try clear Xlt)
    have X0 := X.cell 0 _ rfl; have X1 := X.cell 1 _ rfl; have X2 := X.cell 2 _ rfl; have X3 := X.cell 3 _ rfl; have X4 := X.cell 4 _ rfl; have X5 := X.cell 5 _ rfl; have X6 := X.cell 6 _ rfl; have Xlt := X.lt
    generalize pairS (labO x) (labR x) = ps at *
    go_upto_if 26 with fail
    go_cut [5] (fun s5 wx => s5 = .int .i64 (hourS x) ∧ w2 = wx)
    case first =>
      by_cases h0 : x.ax = 0
      · have hx : (x.ax == 0) = true := by simpa using h0
        have HE : Hid (hourS x = 12) := by show hourS x = 12; unfold hourS; rw [if_pos h0]
        clear h0
        go_wp2_with fail
        go_meet
        exact ⟨by rw [HE.out], rfl⟩
      · have hx : (x.ax == 0) = false := by simpa using h0
        have HE : Hid (hourS x = x.ax) := by show hourS x = x.ax; unfold hourS; rw [if_neg h0]
        clear h0
        go_wp2_with fail
        go_meet
        exact ⟨by rw [HE.out], rfl⟩
    case rest =>
      obtain ⟨rfl, rfl⟩ := hcut
      generalize hourS x = hr at *
      have hE2 := hE.step hb
      have i3 : -9223372036854775808 ≤ x.id := by omega
      have i4 : x.id ≤ 9223372036854775807 := by omega
      have h3 : -9223372036854775808 ≤ hr := by omega
      have h4 : hr ≤ 9223372036854775807 := by omega
      have hG : ∀ W, Env W → Calls Tryz.prog 39 #[.int .i64 x.wt] W fun e w' => e = .returned (.string ⟨(gramS k).toArray⟩) ∧ Below W.heap.size W w' := fun W hW => by
        rw [HK.out]; exact grams_any k W hk2 hW
      have HG := Lib.hid hG; clear hG
      clear X1 X2 X3 X4 X5
      go_wp2_with fail
      go_region_held3 (fun W => W.cell? ⟨w.heap.size, 0, none⟩ = some (.int .i64 x.id) ∧ W.cell? ⟨w.heap.size, 6, none⟩ = some (.int .i64 x.wt) ∧ Below w2.heap.size w2 W)
        (first | exact ⟨X0, X6, Below.drew (Below.refl _ _)⟩ | exact keep2 Xlt (by assumption) (by assumption) | go_keep)
        (first
          | (go_at_call 38; ((with_reducible refine (itoa_any x.id _ i3 i4 (env2 hE2 (by assumption))).mono ?_); rintro e w3 ⟨rfl, hb3⟩))
          | (go_at_call 38; ((with_reducible refine (itoa_any hr _ h3 h4 (env2 hE2 (by assumption))).mono ?_); rintro e w3 ⟨rfl, hb3⟩))
          | (go_at_call 39; ((with_reducible refine (HG.out _ (env2 hE2 (by assumption))).mono ?_); rintro e w3 ⟨rfl, hb3⟩)))
      go_wp2_with fail
      go_ret
      rename_i hH
      exact ⟨by rw [HT.out, HK.out]; simp, hb.trans (hH.2.2.mono hb.size)⟩
  · have hf : textSp x = [] := by unfold textSp; rw [if_neg hv]
    have HV : Hid (validS x = false) := by show _ = _; simpa using hv
    clear hv
    rw [hf]
    go_enter Tryz.func13, Tryz.ntmps13
    go_wp2_with fail
    refine (svalidb_any x _).mono ?_; rintro e w1 ⟨rfl, hb1⟩
    obtain ⟨_, hb, X⟩ := step1 (vs := [.int .i64 x.id, .int .i64 x.obv, .int .i64 x.rev, .int .i64 x.os, .int .i64 x.rs, .int .i64 x.ax, .int .i64 x.wt]) (Below.refl _ _) hb1
    rw [HV.out]
    go_wp2_with fail
    go_ret
    exact ⟨rfl, hb⟩
end Go.Proofs.YtnaoagkelbjflaaGreatDoor
