/- Pairs of labels: their texts. -/
import Derived.Test.YtnaoagkelbjflaaGreatDoorSf
set_option linter.unusedSimpArgs false
set_option linter.unusedVariables false
namespace Go.Proofs.YtnaoagkelbjflaaGreatDoor
open Go.RowKit

def pairE (o r : Lab) : Int := if pairOk o r then 0 else 1
def pairV (o r : Lab) : Value := .tuple #[.string ⟨(pairS o r).toArray⟩, .int .i64 (pairE o r)]
theorem pairV_ok {o r : Lab} (h : pairOk o r = true) : pairV o r = .tuple #[.string ⟨(labS o ++ 47 :: labS r).toArray⟩, .int .i64 0] := by
  unfold pairV pairE; rw [pairS_ok h, if_pos h]
theorem pairV_no {o r : Lab} (h : ¬ pairOk o r = true) : pairV o r = .tuple #[.string ⟨#[]⟩, .int .i64 1] := by
  unfold pairV pairE pairS; rw [if_neg h, if_neg h]
theorem keep6 {w0 w w1 : World} {p m : Nat} {a0 a1 a2 m0 m1 m2 : Value} (hp : p < w0.heap.size) (hm : m < w0.heap.size)
    (H : w.cell? ⟨p, 0, none⟩ = some a0 ∧ w.cell? ⟨p, 1, none⟩ = some a1 ∧ w.cell? ⟨p, 2, none⟩ = some a2 ∧ w.cell? ⟨m, 0, none⟩ = some m0 ∧ w.cell? ⟨m, 1, none⟩ = some m1 ∧ w.cell? ⟨m, 2, none⟩ = some m2 ∧ Below w0.heap.size w0 w) (hb : Below w.heap.size w w1) :
    w1.cell? ⟨p, 0, none⟩ = some a0 ∧ w1.cell? ⟨p, 1, none⟩ = some a1 ∧ w1.cell? ⟨p, 2, none⟩ = some a2 ∧ w1.cell? ⟨m, 0, none⟩ = some m0 ∧ w1.cell? ⟨m, 1, none⟩ = some m1 ∧ w1.cell? ⟨m, 2, none⟩ = some m2 ∧ Below w0.heap.size w0 w1 := by
  obtain ⟨h1, h2, h3, h4, h5, h6, h7⟩ := H
  have hz := h7.size
  have k1 : ∀ j u, w.cell? ⟨p, j, none⟩ = some u → w1.cell? ⟨p, j, none⟩ = some u := fun j u h => (hb.cell (p := ⟨p, j, none⟩) (by show p < _; omega)).trans h
  have k2 : ∀ j u, w.cell? ⟨m, j, none⟩ = some u → w1.cell? ⟨m, j, none⟩ = some u := fun j u h => (hb.cell (p := ⟨m, j, none⟩) (by show m < _; omega)).trans h
  exact ⟨k1 _ _ h1, k1 _ _ h2, k1 _ _ h3, k2 _ _ h4, k2 _ _ h5, k2 _ _ h6, h7.trans (hb.mono hz)⟩
theorem env6 {w0 w : World} {p m : Nat} {a0 a1 a2 m0 m1 m2 : Value} (hE : Env w0)
    (H : w.cell? ⟨p, 0, none⟩ = some a0 ∧ w.cell? ⟨p, 1, none⟩ = some a1 ∧ w.cell? ⟨p, 2, none⟩ = some a2 ∧ w.cell? ⟨m, 0, none⟩ = some m0 ∧ w.cell? ⟨m, 1, none⟩ = some m1 ∧ w.cell? ⟨m, 2, none⟩ = some m2 ∧ Below w0.heap.size w0 w) : Env w := hE.step H.2.2.2.2.2.2
theorem pair_lists {P : Program} (x y : Lab) : (∀ W, (Op.stringOp .add ⟨(labS x).toArray⟩ ⟨#[47]⟩).run P W = .ok (.string ⟨(labS x ++ [47]).toArray⟩) W) ∧ ∀ W, (Op.stringOp .add ⟨(labS x ++ [47]).toArray⟩ ⟨(labS y).toArray⟩).run P W = .ok (.string ⟨(labS x ++ [47] ++ labS y).toArray⟩) W := by
  have h1 := labS_len x
  have h2 := labS_len y
  exact ⟨fun W => add_lists (labS x) [47] (by simp; omega) W, fun W => add_lists (labS x ++ [47]) (labS y) (by simp; omega) W⟩
set_option maxRecDepth 100000 in
set_option maxHeartbeats 1000000 in
theorem lpair_any (o r : Lab) (w : World) (hE : Env w) :
    Calls Tryz.prog 37 #[.agg #[.int .i64 o.side, .int .i64 o.num, .int .i64 o.st], .agg #[.int .i64 r.side, .int .i64 r.num, .int .i64 r.st]] w fun e w' => e = .returned (pairV o r) ∧ Below w.heap.size w w' := by
  by_cases hp : pairOk o r = true
  · obtain ⟨h1, h2, h3, h4⟩ := (pairOk_iff o r).1 hp
    have HV := Lib.hid (pairV_ok hp); clear hp
    obtain ⟨hq1, hq2⟩ := pair_lists (P := Tryz.prog) o r
    have HO := Lib.hid h1; clear h1
    have HR := Lib.hid h2; clear h2
    obtain ⟨oside, onum, ost⟩ := o
    obtain ⟨rside, rnum, rst⟩ := r
    simp only at h3 h4
    subst h3
    subst h4
    rw [HV.out]
    go_enter Tryz.func37, Tryz.ntmps37
    go_wp2_with fail
    refine (lvalidb_any ⟨0, onum, ost⟩ _).mono ?_; rintro e w1 ⟨rfl, hb1⟩
    obtain ⟨_, hb, O, R⟩ := step2 (Below.refl _ _) hb1
    clear hb1
    rw [HO.out]
    have O0 := O.cell 0 _ rfl; have O1 := O.cell 1 _ rfl; have O2 := O.cell 2 _ rfl
    have R0 := R.cell 0 _ rfl; have R1 := R.cell 1 _ rfl; have R2 := R.cell 2 _ rfl
    go_wp2_with fail
    refine (lvalidb_any ⟨1, rnum, rst⟩ _).mono ?_; rintro e w2 ⟨rfl, hb2⟩
    (replace hb := hb.trans (hb2.mono hb.size)); replace O := O.up hb2; replace R := R.up hb2; clear hb2; (try clear O0); (try clear O1); (try clear O2); (try clear R0); (try clear R1); (try clear R2)
    rw [HR.out]
    have O0 := O.cell 0 _ rfl; have O1 := O.cell 1 _ rfl; have O2 := O.cell 2 _ rfl
    have R0 := R.cell 0 _ rfl; have R1 := R.cell 1 _ rfl; have R2 := R.cell 2 _ rfl
    go_wp2_with fail
    have hEw := hE.step hb
    have Olt := O.lt
    have Rlt := R.lt
    go_region_held3 (fun W => W.cell? ⟨w.heap.size, 0, none⟩ = some (.int .i64 0) ∧ W.cell? ⟨w.heap.size, 1, none⟩ = some (.int .i64 onum) ∧ W.cell? ⟨w.heap.size, 2, none⟩ = some (.int .i64 ost) ∧ W.cell? ⟨w.heap.size + 1, 0, none⟩ = some (.int .i64 1) ∧ W.cell? ⟨w.heap.size + 1, 1, none⟩ = some (.int .i64 rnum) ∧ W.cell? ⟨w.heap.size + 1, 2, none⟩ = some (.int .i64 rst) ∧ Below w2.heap.size w2 W)
      (first | exact ⟨O0, O1, O2, R0, R1, R2, Below.drew (Below.refl _ _)⟩ | exact keep6 Olt Rlt (by assumption) (by assumption) | go_keep)
      (first | (go_at_call 61; (with_reducible refine (ltext_any ⟨_, _, _⟩ _ (env6 hEw (by assumption))).mono ?_); rintro e w2 ⟨rfl, hb2⟩))
    go_wp2_with fail
    go_ret2
    rename_i hH
    exact ⟨by simp, hb.trans (hH.2.2.2.2.2.2.mono hb.size)⟩
  · have HV := Lib.hid (pairV_no hp)
    rw [HV.out]
    obtain ⟨oside, onum, ost⟩ := o
    obtain ⟨rside, rnum, rst⟩ := r
    have hpf : okLab ⟨oside, onum, ost⟩ = false ∨ (okLab ⟨oside, onum, ost⟩ = true ∧ okLab ⟨rside, rnum, rst⟩ = false) ∨ (okLab ⟨oside, onum, ost⟩ = true ∧ okLab ⟨rside, rnum, rst⟩ = true ∧ (oside != 0) = true) ∨ (okLab ⟨oside, onum, ost⟩ = true ∧ okLab ⟨rside, rnum, rst⟩ = true ∧ oside = 0 ∧ (rside != 1) = true) := by
      rw [pairOk_iff] at hp
      cases h1 : okLab ⟨oside, onum, ost⟩
      · exact .inl rfl
      · cases h2 : okLab ⟨rside, rnum, rst⟩
        · exact .inr (.inl ⟨rfl, rfl⟩)
        · by_cases h3 : oside = 0
          · exact .inr (.inr (.inr ⟨rfl, rfl, h3, by have : ¬ rside = 1 := fun e => hp ⟨h1, h2, h3, e⟩
                                                     simpa using this⟩))
          · exact .inr (.inr (.inl ⟨rfl, rfl, by simpa using h3⟩))
    clear hp
    rcases hpf with h1 | ⟨h1, h2⟩ | ⟨h1, h2, h3⟩ | ⟨h1, h2, h3, h4⟩
    · have HO := Lib.hid h1; clear h1
      go_enter Tryz.func37, Tryz.ntmps37
      go_wp2_with fail
      refine (lvalidb_any ⟨oside, onum, ost⟩ _).mono ?_; rintro e w1 ⟨rfl, hb1⟩
      obtain ⟨_, hb, O, R⟩ := step2 (Below.refl _ _) hb1
      clear hb1
      rw [HO.out]
      go_wp2_with fail
      go_ret2
      exact ⟨rfl, hb⟩
    all_goals
      have HO := Lib.hid h1; clear h1
      have HR := Lib.hid h2; clear h2
      (try subst h3)
      go_enter Tryz.func37, Tryz.ntmps37
      go_wp2_with fail
      refine (lvalidb_any ⟨_, onum, ost⟩ _).mono ?_; rintro e w1 ⟨rfl, hb1⟩
      obtain ⟨_, hb, O, R⟩ := step2 (Below.refl _ _) hb1
      clear hb1
      rw [HO.out]
      have O0 := O.cell 0 _ rfl; have O1 := O.cell 1 _ rfl; have O2 := O.cell 2 _ rfl
      have R0 := R.cell 0 _ rfl; have R1 := R.cell 1 _ rfl; have R2 := R.cell 2 _ rfl
      go_wp2_with fail
      refine (lvalidb_any ⟨rside, rnum, rst⟩ _).mono ?_; rintro e w2 ⟨rfl, hb2⟩
      (replace hb := hb.trans (hb2.mono hb.size)); replace O := O.up hb2; replace R := R.up hb2; clear hb2; (try clear O0); (try clear O1); (try clear O2); (try clear R0); (try clear R1); (try clear R2)
      rw [HR.out]
      have O0 := O.cell 0 _ rfl; have O1 := O.cell 1 _ rfl; have O2 := O.cell 2 _ rfl
      have R0 := R.cell 0 _ rfl; have R1 := R.cell 1 _ rfl; have R2 := R.cell 2 _ rfl
      go_wp2_with fail
      go_ret2
      exact ⟨rfl, hb⟩
end Go.Proofs.YtnaoagkelbjflaaGreatDoor
