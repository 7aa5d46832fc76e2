/- The reference's text of years. -/
import Derived.Test.YthbckkjihijekaaDoorYt
import Derived.Deep.RegionHeld3
set_option linter.unusedSimpArgs false
set_option linter.unusedVariables false
namespace Go.Proofs.YthbckkjihijekaaDoor
open Go.RowKit

theorem numAt_any (n : Nat) (w : World) (hn : n < 18446744073709551616) :
    Calls Tryd.prog 55 #[.int .u64 n] w fun e w1 => ∃ A' m c', e = .returned (.agg #[.slice A' m c']) ∧ Below w.heap.size w w1 ∧
      ∀ W, Below w1.heap.size w1 W → Calls Tryd.prog 54 #[.agg #[.slice A' m c']] W fun e w2 => e = .returned (.string ⟨(Lib.decDigits n).toArray⟩) ∧ Below W.heap.size W w2 := by
  refine (of_any n hn w).mono ?_
  rintro e w1 ⟨A', m, c', rfl, hS, hb⟩
  refine ⟨A', m, c', rfl, hb, fun W hW => ?_⟩
  have h := natText_of n hn
  refine (text_any _ (fun x hx => of_lt n hn x (mem_trim hx)) ?_ A' m c' W ((hS.up hW (Nat.le_refl _) (Nat.le_refl _)).any)).mono ?_
  · exact Nat.le_trans (trim_le _) (by simp)
  · rintro e w2 ⟨rfl, hb2⟩
    exact ⟨by rw [h], hb2⟩

theorem number_any (n : Int) (w : World) (h1 : -9999 ≤ n) (h2 : n ≤ 9999) :
    Calls Tryd.prog 38 #[.int .i64 n] w fun e w' => e = .returned (.string ⟨(numS n).toArray⟩) ∧ Below w.heap.size w w' := by
  by_cases h0 : 0 < n
  · obtain ⟨k, rfl⟩ := Int.eq_ofNat_of_zero_le (show 0 ≤ n by omega)
    have hf : numS k = Lib.decDigits k := by unfold numS; rw [if_pos h0]; simp [Lib.itoa]
    have HF := Lib.hid hf; clear hf
    go_enter Tryd.func38, Tryd.ntmps38
    go_wp2_with fail
    refine (numAt_any k _ (by omega)).mono ?_
    rintro e w1 ⟨A', m, c', rfl, hb1, hT⟩
    have HT := Lib.hid hT; clear hT
    go_wp2_with fail
    refine (HT.out _ (Below.refl _ _)).mono ?_
    rintro e w2 ⟨rfl, hb2⟩
    go_wp2_with fail
    go_ret
    exact ⟨by rw [HF.out]; rfl, hb1.trans (hb2.mono hb1.size)⟩
  · obtain ⟨k, hk⟩ := Int.eq_ofNat_of_zero_le (show 0 ≤ 1 - n by omega)
    have hf : numS n = Lib.decDigits k := by unfold numS; rw [if_neg h0, hk]; simp [Lib.itoa]
    have HF := Lib.hid hf; clear hf
    have HK := Lib.hid hk; clear hk
    go_enter Tryd.func38, Tryd.ntmps38
    go_wp2_with fail
    rw [HK.out]
    have hk2 : k ≤ 10000 := by have := HK.out; omega
    refine (numAt_any k _ (by omega)).mono ?_
    rintro e w1 ⟨A', m, c', rfl, hb1, hT⟩
    have HT := Lib.hid hT; clear hT
    go_wp2_with fail
    refine (HT.out _ (Below.refl _ _)).mono ?_
    rintro e w2 ⟨rfl, hb2⟩
    go_wp2_with fail
    go_ret
    exact ⟨by rw [HF.out]; rfl, hb1.trans (hb2.mono hb1.size)⟩

theorem era_any (n : Int) (w : World) :
    Calls Tryd.prog 39 #[.int .i64 n] w fun e w' => e = .returned (.string ⟨(eraS n).toArray⟩) ∧ w = w' := by
  by_cases h0 : 0 < n
  · go_enter Tryd.func39, Tryd.ntmps39
    go_wp2_with fail
    go_ret
    exact ⟨by simp [eraS, h0], rfl⟩
  · go_enter Tryd.func39, Tryd.ntmps39
    go_wp2_with fail
    go_ret
    exact ⟨by simp [eraS, show ¬ 0 < n from by omega], rfl⟩

theorem keep2 {w0 w w1 : World} {b : Nat} {x y : Value} (h : w.cell? ⟨b, 0, none⟩ = some x ∧ w.cell? ⟨b, 1, none⟩ = some y ∧ Below w0.heap.size w0 w) (hz : b < w0.heap.size) (hb : Below w.heap.size w w1) :
    w1.cell? ⟨b, 0, none⟩ = some x ∧ w1.cell? ⟨b, 1, none⟩ = some y ∧ Below w0.heap.size w0 w1 := by
  have := h.2.2.size
  exact ⟨(hb.cell (p := ⟨b, 0, none⟩) (by show b < _; omega)).trans h.1, (hb.cell (p := ⟨b, 1, none⟩) (by show b < _; omega)).trans h.2.1, h.2.2.trans (hb.mono this)⟩

set_option maxRecDepth 100000 in
set_option maxHeartbeats 1000000 in
theorem rtext_years (a b : Int) (w : World) :
    Calls Tryd.prog 23 #[.agg #[.int .i64 a, .int .i64 b]] w fun e w' => e = .returned (.string ⟨(textS a b).toArray⟩) ∧ Below w.heap.size w w' := by
  by_cases hv : validB a b = true
  · obtain ⟨h1, h2, h3⟩ := (validB_iff a b).1 hv
    have hla := numS_len a h2 (by omega)
    have hlb := numS_len b (by omega) h3
    have hea : (eraS a).length = 3 := by unfold eraS; split <;> rfl
    have heb : (eraS b).length = 3 := by unfold eraS; split <;> rfl
    have HV := Lib.hid hv; clear hv
    by_cases hab : a = b
    · subst hab
      have hf : textS a a = numS a ++ eraS a := by unfold textS; rw [if_pos HV.out, if_pos rfl]
      have HF := Lib.hid hf; clear hf
      go_enter Tryd.func23, Tryd.ntmps23
      go_wp2_with fail
      refine (rvalid_any _ _ _).mono ?_; rintro e w1 ⟨rfl, hw1⟩
      have hb1 : Below w.heap.size w w1 := by rw [← hw1]; (repeat (first | exact Below.refl _ _ | assumption | refine Below.alloc ?_ (by first | omega | (simp only [World.size_alloc]; omega) | (simp; done) | (simp; omega)) _ | refine Below.setCell ?_ (by first | omega | (simp only [World.size_alloc]; omega) | (simp; done) | (simp; omega)) _ | refine Below.drew ?_ | refine below_drewN ?_ _))
      obtain ⟨c0, c1⟩ : w1.cell? ⟨w.heap.size, 0, none⟩ = some (.int .i64 a) ∧ w1.cell? ⟨w.heap.size, 1, none⟩ = some (.int .i64 a) := by
        subst hw1; constructor <;> go_simp
      have hz1 : w.heap.size < w1.heap.size := by rw [← hw1]; simp; omega
      clear hw1
      rw [HV.out]
      have hq := add_lists (P := Tryd.prog) (numS a) (eraS a) (by omega)
      go_wp2_with fail
      go_region_held3 (fun W => W.cell? ⟨w.heap.size, 0, none⟩ = some (.int .i64 a) ∧ W.cell? ⟨w.heap.size, 1, none⟩ = some (.int .i64 a) ∧ Below w1.heap.size w1 W)
        (first | exact ⟨c0, c1, Below.drew (Below.refl _ _)⟩ | exact keep2 (by assumption) hz1 (by assumption) | go_keep)
        (first
          | (go_at_call 38; refine (number_any _ _ h2 h3).mono ?_; rintro e w2 ⟨rfl, hb2⟩)
          | (go_at_call 39; refine (era_any _ _).mono ?_; rintro e w2 ⟨rfl, rfl⟩))
      go_wp2_with fail
      go_ret
      rename_i hH
      exact ⟨by rw [HF.out]; rfl, hb1.trans (hH.2.2.mono (by omega))⟩
    · have hab' : (a == b) = false := by simpa using hab
      have HAB := Lib.hid hab; clear hab
      have hq1 := add_lists (P := Tryd.prog) (numS a) [45] (by simp; omega)
      have hq2 := add_lists (P := Tryd.prog) (numS a ++ [45]) (numS b) (by simp; omega)
      have hq3 := add_lists (P := Tryd.prog) (numS a ++ [45] ++ numS b) (eraS b) (by simp; omega)
      have hr1 := add_lists (P := Tryd.prog) (numS a) (eraS a) (by omega)
      have hr2 := add_lists (P := Tryd.prog) (numS a ++ eraS a) [45] (by simp; omega)
      have hr3 := add_lists (P := Tryd.prog) (numS a ++ eraS a ++ [45]) (numS b) (by simp; omega)
      have hr4 := add_lists (P := Tryd.prog) (numS a ++ eraS a ++ [45] ++ numS b) (eraS b) (by simp; omega)
      simp only [List.append_assoc, List.cons_append, List.nil_append] at hq1 hq2 hq3 hr1 hr2 hr3 hr4
      go_enter Tryd.func23, Tryd.ntmps23
      go_wp2_with fail
      refine (rvalid_any _ _ _).mono ?_; rintro e w1 ⟨rfl, hw1⟩
      have hb1 : Below w.heap.size w w1 := by rw [← hw1]; (repeat (first | exact Below.refl _ _ | assumption | refine Below.alloc ?_ (by first | omega | (simp only [World.size_alloc]; omega) | (simp; done) | (simp; omega)) _ | refine Below.setCell ?_ (by first | omega | (simp only [World.size_alloc]; omega) | (simp; done) | (simp; omega)) _ | refine Below.drew ?_ | refine below_drewN ?_ _))
      obtain ⟨c0, c1⟩ : w1.cell? ⟨w.heap.size, 0, none⟩ = some (.int .i64 a) ∧ w1.cell? ⟨w.heap.size, 1, none⟩ = some (.int .i64 b) := by
        subst hw1; constructor <;> go_simp
      have hz1 : w.heap.size < w1.heap.size := by rw [← hw1]; simp; omega
      clear hw1
      rw [HV.out]
      go_wp2_with fail
      go_region_held3 (fun W => W.cell? ⟨w.heap.size, 0, none⟩ = some (.int .i64 a) ∧ W.cell? ⟨w.heap.size, 1, none⟩ = some (.int .i64 b) ∧ Below w1.heap.size w1 W)
        (first | exact ⟨c0, c1, Below.drew (Below.refl _ _)⟩ | exact keep2 (by assumption) hz1 (by assumption) | go_keep)
        (first
          | (go_at_call 38; refine (number_any _ _ (by omega) (by omega)).mono ?_; rintro e w2 ⟨rfl, hb2⟩)
          | (go_at_call 39; refine (era_any _ _).mono ?_; rintro e w2 ⟨rfl, rfl⟩))
      rename_i hH
      by_cases hee : eraS a = eraS b
      · have hf : textS a b = numS a ++ [45] ++ numS b ++ eraS b := by simp [textS, HV.out, HAB.out, hee]
        have HF := Lib.hid hf; clear hf
        have hee' : (eraS a == eraS b) = true := by simpa using hee
        have HE := Lib.hid hee; clear hee
        rw [hee']
        go_wp2_with fail
        generalize w1.drew = v1 at hH ⊢
        go_region_held3 (fun W => W.cell? ⟨w.heap.size, 0, none⟩ = some (.int .i64 a) ∧ W.cell? ⟨w.heap.size, 1, none⟩ = some (.int .i64 b) ∧ Below w1.heap.size w1 W)
          (first | exact ⟨hH.1, hH.2.1, Below.drew hH.2.2⟩ | exact keep2 (by assumption) hz1 (by assumption) | go_keep)
          (first
            | (go_at_call 38; refine (number_any _ _ (by omega) (by omega)).mono ?_; rintro e w2 ⟨rfl, hb2⟩)
            | (go_at_call 39; refine (era_any _ _).mono ?_; rintro e w2 ⟨rfl, rfl⟩))
        go_wp2_with fail
        go_ret
        rename_i hH2
        exact ⟨by rw [HF.out]; simp only [List.append_assoc, List.cons_append, List.nil_append]; rfl, hb1.trans (hH2.2.2.mono (by omega))⟩
      · have hf : textS a b = numS a ++ eraS a ++ [45] ++ numS b ++ eraS b := by simp [textS, HV.out, HAB.out, hee]
        have HF := Lib.hid hf; clear hf
        have hee' : (eraS a == eraS b) = false := by simpa using hee
        have HE := Lib.hid hee; clear hee
        rw [hee']
        go_wp2_with fail
        generalize w1.drew = v1 at hH ⊢
        go_region_held3 (fun W => W.cell? ⟨w.heap.size, 0, none⟩ = some (.int .i64 a) ∧ W.cell? ⟨w.heap.size, 1, none⟩ = some (.int .i64 b) ∧ Below w1.heap.size w1 W)
          (first | exact ⟨hH.1, hH.2.1, Below.drew hH.2.2⟩ | exact keep2 (by assumption) hz1 (by assumption) | go_keep)
          (first
            | (go_at_call 38; refine (number_any _ _ (by omega) (by omega)).mono ?_; rintro e w2 ⟨rfl, hb2⟩)
            | (go_at_call 39; refine (era_any _ _).mono ?_; rintro e w2 ⟨rfl, rfl⟩))
        go_wp2_with fail
        go_ret
        rename_i hH2
        exact ⟨by rw [HF.out]; simp only [List.append_assoc, List.cons_append, List.nil_append]; rfl, hb1.trans (hH2.2.2.mono (by omega))⟩
  · go_enter Tryd.func23, Tryd.ntmps23
    go_wp2_with (go_at_call 18; refine (rvalid_any _ _ _).mono ?_; rintro e w' ⟨rfl, rfl⟩)
    go_ret
    exact ⟨by simp [textS, hv], by (repeat (first | exact Below.refl _ _ | assumption | refine Below.alloc ?_ (by first | omega | (simp only [World.size_alloc]; omega) | (simp; done) | (simp; omega)) _ | refine Below.setCell ?_ (by first | omega | (simp only [World.size_alloc]; omega) | (simp; done) | (simp; omega)) _ | refine Below.drew ?_ | refine below_drewN ?_ _))⟩
end Go.Proofs.YthbckkjihijekaaDoor
