/- Pairs of labels: their texts, the reference's. -/
import Derived.Test.YtnaoagkelbjflaaGreatDoorSfp
set_option linter.unusedSimpArgs false
set_option linter.unusedVariables false
namespace Go.Proofs.YtnaoagkelbjflaaGreatDoor
open Go.RowKit

set_option maxRecDepth 100000 in
set_option maxHeartbeats 1000000 in
theorem rlpair_any (o r : Lab) (w : World) :
    Calls Tryz.prog 42 #[.agg #[.int .i64 o.side, .int .i64 o.num, .int .i64 o.st], .agg #[.int .i64 r.side, .int .i64 r.num, .int .i64 r.st]] w fun e w' => e = .returned (pairV o r) ∧ Below w.heap.size w w' := by
  by_cases hp : pairOk o r = true
  · obtain ⟨h1, h2, h3, h4⟩ := (pairOk_iff o r).1 hp
    have HV := Lib.hid (pairV_ok hp); clear hp
    obtain ⟨hq1, hq2⟩ := pair_lists (P := Tryz.prog) o r
    have HO := Lib.hid h1; clear h1
    have HR := Lib.hid h2; clear h2
    obtain ⟨oside, onum, ost⟩ := o
    obtain ⟨rside, rnum, rst⟩ := r
    simp only at h3 h4
    subst h3
    subst h4
    rw [HV.out]
    go_enter Tryz.func42, Tryz.ntmps42
    go_wp2_with fail
    refine (rlvalidb_any ⟨0, onum, ost⟩ _).mono ?_; rintro e w1 ⟨rfl, hb1⟩
    obtain ⟨_, hb, O, R⟩ := step2 (Below.refl _ _) hb1
    clear hb1
    rw [HO.out]
    have O0 := O.cell 0 _ rfl; have O1 := O.cell 1 _ rfl; have O2 := O.cell 2 _ rfl; have Olt := O.lt
    have R0 := R.cell 0 _ rfl; have R1 := R.cell 1 _ rfl; have R2 := R.cell 2 _ rfl; have Rlt := R.lt
    go_wp2_with fail
    refine (rlvalidb_any ⟨1, rnum, rst⟩ _).mono ?_; rintro e w2 ⟨rfl, hb2⟩
    (replace hb := hb.trans (hb2.mono hb.size)); replace O := O.up hb2; replace R := R.up hb2; clear hb2; (try clear O0); (try clear O1); (try clear O2); (try clear Olt); (try clear R0); (try clear R1); (try clear R2); (try clear Rlt)
    rw [HR.out]
    have O0 := O.cell 0 _ rfl; have O1 := O.cell 1 _ rfl; have O2 := O.cell 2 _ rfl; have Olt := O.lt
    have R0 := R.cell 0 _ rfl; have R1 := R.cell 1 _ rfl; have R2 := R.cell 2 _ rfl; have Rlt := R.lt
    go_wp2_with fail
    have Olt := O.lt
    have Rlt := R.lt
    go_region_held3 (fun W => W.cell? ⟨w.heap.size, 0, none⟩ = some (.int .i64 0) ∧ W.cell? ⟨w.heap.size, 1, none⟩ = some (.int .i64 onum) ∧ W.cell? ⟨w.heap.size, 2, none⟩ = some (.int .i64 ost) ∧ W.cell? ⟨w.heap.size + 1, 0, none⟩ = some (.int .i64 1) ∧ W.cell? ⟨w.heap.size + 1, 1, none⟩ = some (.int .i64 rnum) ∧ W.cell? ⟨w.heap.size + 1, 2, none⟩ = some (.int .i64 rst) ∧ Below w2.heap.size w2 W)
      (first | exact ⟨O0, O1, O2, R0, R1, R2, Below.drew (Below.refl _ _)⟩ | exact keep6 Olt Rlt (by assumption) (by assumption) | go_keep)
      (first | (go_at_call 67; (with_reducible refine (rltext_any ⟨_, _, _⟩ _).mono ?_); rintro e w2 ⟨rfl, hb2⟩))
    go_wp2_with fail
    go_ret2
    rename_i hH
    exact ⟨by simp, hb.trans (hH.2.2.2.2.2.2.mono hb.size)⟩
  · have HV := Lib.hid (pairV_no hp)
    rw [HV.out]
    obtain ⟨oside, onum, ost⟩ := o
    obtain ⟨rside, rnum, rst⟩ := r
    have hpf : okLab ⟨oside, onum, ost⟩ = false ∨ (okLab ⟨oside, onum, ost⟩ = true ∧ okLab ⟨rside, rnum, rst⟩ = false) ∨ (okLab ⟨oside, onum, ost⟩ = true ∧ okLab ⟨rside, rnum, rst⟩ = true ∧ (oside != 0) = true) ∨ (okLab ⟨oside, onum, ost⟩ = true ∧ okLab ⟨rside, rnum, rst⟩ = true ∧ oside = 0 ∧ (rside != 1) = true) := by
      rw [pairOk_iff] at hp
      cases h1 : okLab ⟨oside, onum, ost⟩
      · exact .inl rfl
      · cases h2 : okLab ⟨rside, rnum, rst⟩
        · exact .inr (.inl ⟨rfl, rfl⟩)
        · by_cases h3 : oside = 0
          · exact .inr (.inr (.inr ⟨rfl, rfl, h3, by have : ¬ rside = 1 := fun e => hp ⟨h1, h2, h3, e⟩
                                                     simpa using this⟩))
          · exact .inr (.inr (.inl ⟨rfl, rfl, by simpa using h3⟩))
    clear hp
    rcases hpf with h1 | ⟨h1, h2⟩ | ⟨h1, h2, h3⟩ | ⟨h1, h2, h3, h4⟩
    · have HO := Lib.hid h1; clear h1
      go_enter Tryz.func42, Tryz.ntmps42
      go_wp2_with fail
      refine (rlvalidb_any ⟨oside, onum, ost⟩ _).mono ?_; rintro e w1 ⟨rfl, hb1⟩
      obtain ⟨_, hb, O, R⟩ := step2 (Below.refl _ _) hb1
      clear hb1
      rw [HO.out]
      go_wp2_with fail
      go_ret2
      exact ⟨rfl, hb⟩
    all_goals
      have HO := Lib.hid h1; clear h1
      have HR := Lib.hid h2; clear h2
      (try subst h3)
      go_enter Tryz.func42, Tryz.ntmps42
      go_wp2_with fail
      refine (rlvalidb_any ⟨_, onum, ost⟩ _).mono ?_; rintro e w1 ⟨rfl, hb1⟩
      obtain ⟨_, hb, O, R⟩ := step2 (Below.refl _ _) hb1
      clear hb1
      rw [HO.out]
      have O0 := O.cell 0 _ rfl; have O1 := O.cell 1 _ rfl; have O2 := O.cell 2 _ rfl; have Olt := O.lt
      have R0 := R.cell 0 _ rfl; have R1 := R.cell 1 _ rfl; have R2 := R.cell 2 _ rfl; have Rlt := R.lt
      go_wp2_with fail
      refine (rlvalidb_any ⟨rside, rnum, rst⟩ _).mono ?_; rintro e w2 ⟨rfl, hb2⟩
      (replace hb := hb.trans (hb2.mono hb.size)); replace O := O.up hb2; replace R := R.up hb2; clear hb2; (try clear O0); (try clear O1); (try clear O2); (try clear Olt); (try clear R0); (try clear R1); (try clear R2); (try clear Rlt)
      rw [HR.out]
      have O0 := O.cell 0 _ rfl; have O1 := O.cell 1 _ rfl; have O2 := O.cell 2 _ rfl; have Olt := O.lt
      have R0 := R.cell 0 _ rfl; have R1 := R.cell 1 _ rfl; have R2 := R.cell 2 _ rfl; have Rlt := R.lt
      go_wp2_with fail
      go_ret2
      exact ⟨rfl, hb⟩
end Go.Proofs.YtnaoagkelbjflaaGreatDoor
