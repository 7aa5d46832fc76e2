/- The text of a specimen: the reference's. -/
import Derived.Test.YtnaoagkelbjflaaGreatDoorSj
import Derived.Test.YtnaoagkelbjflaaGreatDoorSkp
import Derived.Test.YtnaoagkelbjflaaGreatDoorSkg
set_option linter.unusedSimpArgs false
set_option linter.unusedVariables false
namespace Go.Proofs.YtnaoagkelbjflaaGreatDoor
open Go.RowKit

set_option maxRecDepth 100000 in
set_option maxHeartbeats 1000000 in
theorem rstext_any (x : Spm) (w : World)  :
    Calls Tryz.prog 16 #[.agg #[.int .i64 x.id, .int .i64 x.obv, .int .i64 x.rev, .int .i64 x.os, .int .i64 x.rs, .int .i64 x.ax, .int .i64 x.wt]] w fun e w' => e = .returned (.string ⟨(textSp x).toArray⟩) ∧ Below w.heap.size w w' := by
  by_cases hv : validS x = true
  · obtain ⟨⟨o1, o2⟩, ⟨r1, r2⟩, ⟨s1, s2⟩, ⟨t1, t2⟩, ⟨i1, i2⟩, ⟨a1, a2⟩, ⟨g1, g2⟩⟩ := (validS_iff x).1 hv
    have hp := sp_pairOk hv
    have HT := Lib.hid (textSp_ok hv)
    have HV := Lib.hid hv; clear hv
    have hpl := pairS_len (labO x) (labR x)
    have HPV : Hid (pairV (labO x) (labR x) = .tuple #[.string ⟨(pairS (labO x) (labR x)).toArray⟩, .int .i64 0]) := by
      show pairV _ _ = _
      unfold pairV pairE; rw [if_pos hp]
    clear hp
    have hh : 1 ≤ hourS x ∧ hourS x ≤ 12 := by unfold hourS; split <;> omega
    obtain ⟨hh1, hh2⟩ := hh
    have HH : Hid (hourS x = if x.ax = 0 then 12 else x.ax) := rfl
    obtain ⟨k, hk⟩ := Int.eq_ofNat_of_zero_le (show 0 ≤ x.wt by omega)
    have HK := Lib.hid hk; clear hk
    have hk2 : k ≤ 200000 := by have := HK.out; omega
    have hgl := gramS_len k hk2
    have hil : (Lib.itoa x.id).length ≤ 4 := by rw [itoa_nat _ (by omega)]; exact decDigits_le 3 _ (by omega)
    have hhl : (Lib.itoa (hourS x)).length ≤ 2 := by rw [itoa_nat _ (by omega)]; exact decDigits_le 1 _ (by omega)
    obtain ⟨q1, q2, q3, q4, q5, q6⟩ := text_lists (P := Tryz.prog) (Lib.itoa x.id) (pairS (labO x) (labR x)) (Lib.itoa (hourS x)) (gramS k) (by omega)
    go_enter Tryz.func16, Tryz.ntmps16
    go_wp2_with fail
    refine (rsvalidb_any x _).mono ?_; rintro e w1 ⟨rfl, hb1⟩
    obtain ⟨_, hb, X⟩ := step1 (vs := [.int .i64 x.id, .int .i64 x.obv, .int .i64 x.rev, .int .i64 x.os, .int .i64 x.rs, .int .i64 x.ax, .int .i64 x.wt]) (Below.refl _ _) hb1
    clear hb1
    rw [HV.out]
    have X0 := X.cell 0 _ rfl; have X1 := X.cell 1 _ rfl; have X2 := X.cell 2 _ rfl; have X3 := X.cell 3 _ rfl; have X4 := X.cell 4 _ rfl; have X5 := X.cell 5 _ rfl; have X6 := X.cell 6 _ rfl; have Xlt := X.lt
    go_wp2_with fail
    refine (rlpair_any (labO x) (labR x) _).mono ?_; rintro e w2 ⟨rfl, hb2⟩
    rw [HPV.out]
    (replace hb := hb.trans (hb2.mono hb.size)); replace X := X.up hb2; clear hb2; (try clear X0); (try clear X1); (try clear X2); (try clear X3); (try clear X4); (try clear X5); (try clear X6); (try clear Xlt)
    have X0 := X.cell 0 _ rfl; have X1 := X.cell 1 _ rfl; have X2 := X.cell 2 _ rfl; have X3 := X.cell 3 _ rfl; have X4 := X.cell 4 _ rfl; have X5 := X.cell 5 _ rfl; have X6 := X.cell 6 _ rfl; have Xlt := X.lt
    generalize pairS (labO x) (labR x) = ps at *
    go_upto_if 26 with fail
    go_cut [5] (fun s5 wx => s5 = .int .i64 (hourS x) ∧ w2 = wx)
    case first =>
      by_cases h0 : x.ax = 0
      · have hx : (x.ax == 0) = true := by simpa using h0
        have HE : Hid (hourS x = 12) := by show hourS x = 12; unfold hourS; rw [if_pos h0]
        clear h0
        go_wp2_with fail
        go_meet
        exact ⟨by rw [HE.out], rfl⟩
      · have hx : (x.ax == 0) = false := by simpa using h0
        have HE : Hid (hourS x = x.ax) := by show hourS x = x.ax; unfold hourS; rw [if_neg h0]
        clear h0
        go_wp2_with fail
        go_meet
        exact ⟨by rw [HE.out], rfl⟩
    case rest =>
      obtain ⟨rfl, rfl⟩ := hcut
      generalize hourS x = hr at *
      have i3 : 0 ≤ x.id := by omega
      have i4 : x.id ≤ 1000000 := by omega
      have h3 : 0 ≤ hr := by omega
      have h4 : hr ≤ 1000000 := by omega
      have hG : ∀ W, Calls Tryz.prog 44 #[.int .i64 x.wt] W fun e w' => e = .returned (.string ⟨(gramS k).toArray⟩) ∧ Below W.heap.size W w' := fun W => by
        rw [HK.out]; exact rgrams_any k W hk2
      have HG := Lib.hid hG; clear hG
      clear X1 X2 X3 X4 X5
      go_wp2_with fail
      go_region_held3 (fun W => W.cell? ⟨w.heap.size, 0, none⟩ = some (.int .i64 x.id) ∧ W.cell? ⟨w.heap.size, 6, none⟩ = some (.int .i64 x.wt) ∧ Below w2.heap.size w2 W)
        (first | exact ⟨X0, X6, Below.drew (Below.refl _ _)⟩ | exact keep2 Xlt (by assumption) (by assumption) | go_keep)
        (first
          | (go_at_call 43; ((with_reducible refine (rdec9_any x.id _ i3 i4).mono ?_); rintro e w3 ⟨rfl, hb3⟩))
          | (go_at_call 43; ((with_reducible refine (rdec9_any hr _ h3 h4).mono ?_); rintro e w3 ⟨rfl, hb3⟩))
          | (go_at_call 44; ((with_reducible refine (HG.out _).mono ?_); rintro e w3 ⟨rfl, hb3⟩)))
      go_wp2_with fail
      go_ret
      rename_i hH
      exact ⟨by rw [HT.out, HK.out]; simp, hb.trans (hH.2.2.mono hb.size)⟩
  · have hf : textSp x = [] := by unfold textSp; rw [if_neg hv]
    have HV : Hid (validS x = false) := by show _ = _; simpa using hv
    clear hv
    rw [hf]
    go_enter Tryz.func16, Tryz.ntmps16
    go_wp2_with fail
    refine (rsvalidb_any x _).mono ?_; rintro e w1 ⟨rfl, hb1⟩
    obtain ⟨_, hb, X⟩ := step1 (vs := [.int .i64 x.id, .int .i64 x.obv, .int .i64 x.rev, .int .i64 x.os, .int .i64 x.rs, .int .i64 x.ax, .int .i64 x.wt]) (Below.refl _ _) hb1
    rw [HV.out]
    go_wp2_with fail
    go_ret
    exact ⟨rfl, hb⟩
end Go.Proofs.YtnaoagkelbjflaaGreatDoor
