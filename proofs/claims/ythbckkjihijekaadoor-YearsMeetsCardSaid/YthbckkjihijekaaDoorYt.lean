/- The text of years: the program's and the reference's. -/
import Derived.Test.YthbckkjihijekaaDoorYd
import Derived.Test.YthbckkjihijekaaDoorDecL
import Derived.Test.YthbckkjihijekaaDoorStd
set_option linter.unusedSimpArgs false
set_option linter.unusedVariables false
namespace Go.Proofs.YthbckkjihijekaaDoor
open Go.RowKit

def numS (n : Int) : List UInt8 := Lib.itoa (if 0 < n then n else 1 - n)
def eraS (n : Int) : List UInt8 := if 0 < n then [32, 65, 68] else [32, 66, 67]
theorem decDigits_le : ∀ (k u : Nat), u < 10 ^ (k + 1) → (Lib.decDigits u).length ≤ k + 1
  | 0, u, h => by rw [Lib.decDigits, dif_pos (by simpa using h)]; simp
  | k + 1, u, h => by
    rw [Lib.decDigits]
    split
    · simp
    · rw [List.length_append]
      have := decDigits_le k (u / 10) (by rw [Nat.pow_succ] at h; omega)
      simp; omega
theorem numS_len (n : Int) (h1 : -9999 ≤ n) (h2 : n ≤ 9999) : (numS n).length ≤ 5 := by
  unfold numS Lib.itoa
  rw [if_neg (by split <;> omega)]
  refine decDigits_le 4 _ ?_
  split <;> omega

theorem name_any (n : Int) (w : World) (h1 : -9999 ≤ n) (h2 : n ≤ 9999) (hE : Env w) :
    Calls Tryd.prog 34 #[.int .i64 n] w fun e w' => e = .returned (.tuple #[.string ⟨(numS n).toArray⟩, .string ⟨(eraS n).toArray⟩]) ∧ Below w.heap.size w w' := by
  by_cases h0 : 0 < n
  · go_enter Tryd.func34, Tryd.ntmps34
    go_wp2_with (go_at_call 50; refine (itoa_any _ _ (by omega) (by omega) hE).mono ?_; rintro e w' ⟨rfl, hb⟩)
    go_ret2
    exact ⟨by simp [numS, eraS, h0], hb⟩
  · go_enter Tryd.func34, Tryd.ntmps34
    go_wp2_with (go_at_call 50; refine (itoa_any _ _ (by omega) (by omega) hE).mono ?_; rintro e w' ⟨rfl, hb⟩)
    go_ret2
    exact ⟨by simp [numS, eraS, show ¬ 0 < n from by omega], hb⟩

def textS (a b : Int) : List UInt8 :=
  if validB a b then (if a = b then numS a ++ eraS a else if eraS a = eraS b then numS a ++ [45] ++ numS b ++ eraS a else numS a ++ eraS a ++ [45] ++ numS b ++ eraS b) else []
set_option maxHeartbeats 1000000 in
theorem text_years (a b : Int) (w : World) (hE : Env w) :
    Calls Tryd.prog 21 #[.agg #[.int .i64 a, .int .i64 b]] w fun e w' => e = .returned (.string ⟨(textS a b).toArray⟩) ∧ Below w.heap.size w w' := by
  by_cases hv : validB a b = true
  · obtain ⟨h1, h2, h3⟩ := (validB_iff a b).1 hv
    have hla := numS_len a h2 (by omega)
    have hlb := numS_len b (by omega) h3
    have hea : (eraS a).length = 3 := by unfold eraS; split <;> rfl
    have heb : (eraS b).length = 3 := by unfold eraS; split <;> rfl
    have HV := Lib.hid hv; clear hv
    have hva := valid_any
    go_enter Tryd.func21, Tryd.ntmps21
    go_wp2_with fail
    refine (valid_any _ _ _).mono ?_; rintro e w1 ⟨rfl, rfl⟩
    rw [HV.out]
    go_wp2_with fail
    refine (name_any _ _ h2 (by omega) (hE.step (by (repeat (first | exact Below.refl _ _ | assumption | refine Below.alloc ?_ (by first | omega | (simp only [World.size_alloc]; omega) | (simp; done) | (simp; omega)) _ | refine Below.setCell ?_ (by first | omega | (simp only [World.size_alloc]; omega) | (simp; done) | (simp; omega)) _ | refine Below.drew ?_ | refine below_drewN ?_ _))))).mono ?_; rintro e w2 ⟨rfl, hb2⟩
    simp only [World.size_alloc] at hb2
    have c0 : w2.cell? ⟨w.heap.size, 0, none⟩ = some (.int .i64 a) := (hb2.cell (by first | (simp; done) | (simp; omega) | (show _ < _; omega))).trans (by simp); have fc0 : w2.frozen? ⟨w.heap.size, 0, none⟩ = false := (hb2.frozen (by first | (simp; done) | (simp; omega) | (show _ < _; omega))).trans (by simp)
    have c1 : w2.cell? ⟨w.heap.size, 1, none⟩ = some (.int .i64 b) := (hb2.cell (by first | (simp; done) | (simp; omega) | (show _ < _; omega))).trans (by simp); have fc1 : w2.frozen? ⟨w.heap.size, 1, none⟩ = false := (hb2.frozen (by first | (simp; done) | (simp; omega) | (show _ < _; omega))).trans (by simp)
    have hz2 : w.heap.size < w2.heap.size := by have := hb2.size; simp at this; omega
    go_wp2_with fail
    have hb2' : Below w.heap.size w w2 := Below.trans (by (repeat (first | exact Below.refl _ _ | assumption | refine Below.alloc ?_ (by first | omega | (simp only [World.size_alloc]; omega) | (simp; done) | (simp; omega)) _ | refine Below.setCell ?_ (by first | omega | (simp only [World.size_alloc]; omega) | (simp; done) | (simp; omega)) _ | refine Below.drew ?_ | refine below_drewN ?_ _))) (hb2.mono (by omega))
    refine (name_any _ _ (by omega) h3 (hE.step hb2')).mono ?_; rintro e w3 ⟨rfl, hb3⟩
    have hb3' : Below w.heap.size w w3 := hb2'.trans (hb3.mono (by omega))
    have d0 := (hb3.cell (p := ⟨w.heap.size, 0, none⟩) hz2).trans c0
    have d1 := (hb3.cell (p := ⟨w.heap.size, 1, none⟩) hz2).trans c1
    have hz3 : w.heap.size < w3.heap.size := by have := hb3.size; omega
    clear c0 c1 fc0 fc1 hb2 hb3 hz2 hva
    by_cases hab : a = b
    · subst hab
      have hf : textS a a = numS a ++ eraS a := by unfold textS; rw [if_pos HV.out, if_pos rfl]
      generalize numS a = na at *
      generalize eraS a = ea at *
      have HF := Lib.hid hf; clear hf
      go_wp2_with fail
      go_ret
      exact ⟨by rw [HF.out, ← ByteArray.mk_append_mk]; rfl, hb3'⟩
    · have hab' : (a == b) = false := by simpa using hab
      have HAB := Lib.hid hab; clear hab
      by_cases hee : eraS a = eraS b
      · have hf : textS a b = numS a ++ [45] ++ numS b ++ eraS a := by simp [textS, HV.out, HAB.out, hee]
        generalize numS a = na at *
        generalize numS b = nb at *
        rw [← hee] at heb ⊢
        generalize eraS a = ea at *
        clear hee
        have HF := Lib.hid hf; clear hf
        go_wp2_with fail
        go_ret
        exact ⟨by rw [HF.out]; simp only [← ByteArray.mk_append_mk]; rfl, hb3'⟩
      · have hf : textS a b = numS a ++ eraS a ++ [45] ++ numS b ++ eraS b := by simp [textS, HV.out, HAB.out, hee]
        generalize numS a = na at *
        generalize eraS a = ea at *
        generalize numS b = nb at *
        generalize eraS b = eb at *
        have hee' : (ea == eb) = false := by simpa using hee
        have HE := Lib.hid hee; clear hee
        have HF := Lib.hid hf; clear hf
        go_wp2_with fail
        go_ret
        exact ⟨by rw [HF.out]; simp only [← ByteArray.mk_append_mk]; rfl, hb3'⟩
  · go_enter Tryd.func21, Tryd.ntmps21
    go_wp2_with (go_at_call 17; refine (valid_any _ _ _).mono ?_; rintro e w' ⟨rfl, rfl⟩)
    go_ret
    exact ⟨by simp [textS, hv], by (repeat (first | exact Below.refl _ _ | assumption | refine Below.alloc ?_ (by first | omega | (simp only [World.size_alloc]; omega) | (simp; done) | (simp; omega)) _ | refine Below.setCell ?_ (by first | omega | (simp only [World.size_alloc]; omega) | (simp; done) | (simp; omega)) _ | refine Below.drew ?_ | refine below_drewN ?_ _))⟩
end Go.Proofs.YthbckkjihijekaaDoor
