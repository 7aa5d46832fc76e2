
/- Labels and pairs: their texts, the program's and the reference's. -/
import Derived.Test.YtdokpmfejibdlaaGreatDoorS5e
import Derived.Test.YtdokpmfejibdlaaGreatDoorStd
import Derived.Test.YtdokpmfejibdlaaGreatDoorBx
set_option linter.unusedSimpArgs false
set_option linter.unusedVariables false
namespace Go.Proofs.YtdokpmfejibdlaaGreatDoor
open Go.RowKit

theorem env3 {w0 w : World} {b : Nat} {x y z : Value} (hE : Env w0) (h : w.cell? ⟨b, 0, none⟩ = some x ∧ w.cell? ⟨b, 1, none⟩ = some y ∧ w.cell? ⟨b, 2, none⟩ = some z ∧ Below w0.heap.size w0 w) : Env w := hE.step h.2.2.2
theorem labS_len (l : Lab) : (labS l).length ≤ 5 := by
  unfold labS
  split
  · rename_i ho
    obtain ⟨_, ⟨n1, n2⟩, _⟩ := (okLab_iff l).1 ho
    have hd := itoa3 l.num n1 n2
    have h1 : (sideS l.side).length = 1 := by unfold sideS; split <;> simp
    have h2 : (stS l.st).length ≤ 1 := by unfold stS; split <;> simp
    simp only [List.length_append]; omega
  · simp
set_option maxRecDepth 100000 in
set_option maxHeartbeats 1000000 in
theorem ltext_any (l : Lab) (w : World) (hE : Env w) :
    Calls Tryz.prog 85 #[.agg #[.int .i64 l.side, .int .i64 l.num, .int .i64 l.st]] w fun e w' => e = .returned (.string ⟨(labS l).toArray⟩) ∧ Below w.heap.size w w' := by
  by_cases hk : okLab l = true
  · obtain ⟨hs, ⟨hn1, hn2⟩, hs1, hs2⟩ := (okLab_iff l).1 hk
    have hl := itoa3 l.num hn1 hn2
    have HF := Lib.hid (labS_ok hk)
    have HK := Lib.hid hk; clear hk
    obtain ⟨side, num, st⟩ := l
    simp only at hs hs1 hs2 hn1 hn2 hl
    have hst : st = 0 ∨ st = 1 ∨ st = 2 ∨ st = 3 ∨ st = 4 ∨ st = 5 ∨ st = 6 ∨ st = 7 ∨ st = 8 ∨ st = 9 := by omega
    clear hs1 hs2
    have hq0 := add_lists (P := Tryz.prog) [79] (Lib.itoa num) (by simp; omega)
    have hq1 := add_lists (P := Tryz.prog) [82] (Lib.itoa num) (by simp; omega)
    simp only [List.cons_append, List.nil_append] at hq0 hq1
    have hw1 : IntKind.i64.wrap 1 = 1 := by decide
    have hw2 : IntKind.i64.wrap 2 = 2 := by decide
    have hx0 : (ByteArray.mk #[79, 82]).extract 0 1 = ⟨[79].toArray⟩ := rfl
    have hx1 : (ByteArray.mk #[79, 82]).extract 1 2 = ⟨[82].toArray⟩ := rfl
    go_enter Tryz.func85, Tryz.ntmps85
    go_wp2_with fail
    refine (lvalidb_any ⟨side, num, st⟩ _).mono ?_; rintro e w1 ⟨rfl, hb1⟩
    simp only [World.size_alloc] at hb1
    have c0 : w1.cell? ⟨w.heap.size, 0, none⟩ = some (.int .i64 side) := (hb1.cell (by first | (simp; done) | (simp; omega) | (show _ < _; omega))).trans (by simp); have fc0 : w1.frozen? ⟨w.heap.size, 0, none⟩ = false := (hb1.frozen (by first | (simp; done) | (simp; omega) | (show _ < _; omega))).trans (by simp)
    have c1 : w1.cell? ⟨w.heap.size, 1, none⟩ = some (.int .i64 num) := (hb1.cell (by first | (simp; done) | (simp; omega) | (show _ < _; omega))).trans (by simp); have fc1 : w1.frozen? ⟨w.heap.size, 1, none⟩ = false := (hb1.frozen (by first | (simp; done) | (simp; omega) | (show _ < _; omega))).trans (by simp)
    have c2 : w1.cell? ⟨w.heap.size, 2, none⟩ = some (.int .i64 st) := (hb1.cell (by first | (simp; done) | (simp; omega) | (show _ < _; omega))).trans (by simp); have fc2 : w1.frozen? ⟨w.heap.size, 2, none⟩ = false := (hb1.frozen (by first | (simp; done) | (simp; omega) | (show _ < _; omega))).trans (by simp)
    have hz1 : w.heap.size < w1.heap.size := by have := hb1.size; simp at this; omega
    have hb1' : Below w.heap.size w w1 := Below.trans (by (repeat (first | exact Below.refl _ _ | assumption | refine Below.alloc ?_ (by first | omega | (simp only [World.size_alloc]; omega) | (simp; done) | (simp; omega)) _ | refine Below.setCell ?_ (by first | omega | (simp only [World.size_alloc]; omega) | (simp; done) | (simp; omega)) _ | refine Below.drew ?_ | refine below_drewN ?_ _))) (hb1.mono (by omega))
    have hE1 := hE.step hb1'
    rw [HK.out]
    rcases hs with rfl | rfl
    · go_wp2_with fail
      go_region_held3 (fun W => W.cell? ⟨w.heap.size, 0, none⟩ = some (.int .i64 0) ∧ W.cell? ⟨w.heap.size, 1, none⟩ = some (.int .i64 num) ∧ W.cell? ⟨w.heap.size, 2, none⟩ = some (.int .i64 st) ∧ Below w1.heap.size w1 W)
        (first | exact ⟨c0, c1, c2, Below.drew (Below.refl _ _)⟩ | exact keep3 (by assumption) hz1 (by assumption) | go_keep)
        (first | (go_at_call 37; refine (itoa_any _ _ (by omega) (by omega) (env3 hE1 (by assumption))).mono ?_; rintro e w2 ⟨rfl, hb2⟩))
      rename_i hH
      obtain ⟨d0, d1, d2, hH⟩ := hH
      rcases hst with rfl | rfl | rfl | rfl | rfl | rfl | rfl | rfl | rfl | rfl <;> ((go_wp2_with fail); go_ret; exact ⟨by rw [HF.out]; first | rfl | (simp [sideS, stS, ← ByteArray.mk_append_mk]; done) | (simp [sideS, stS, ← ByteArray.mk_append_mk]; rfl), hb1'.trans (hH.mono (by omega))⟩)
    · go_wp2_with fail
      go_region_held3 (fun W => W.cell? ⟨w.heap.size, 0, none⟩ = some (.int .i64 1) ∧ W.cell? ⟨w.heap.size, 1, none⟩ = some (.int .i64 num) ∧ W.cell? ⟨w.heap.size, 2, none⟩ = some (.int .i64 st) ∧ Below w1.heap.size w1 W)
        (first | exact ⟨c0, c1, c2, Below.drew (Below.refl _ _)⟩ | exact keep3 (by assumption) hz1 (by assumption) | go_keep)
        (first | (go_at_call 37; refine (itoa_any _ _ (by omega) (by omega) (env3 hE1 (by assumption))).mono ?_; rintro e w2 ⟨rfl, hb2⟩))
      rename_i hH
      obtain ⟨d0, d1, d2, hH⟩ := hH
      rcases hst with rfl | rfl | rfl | rfl | rfl | rfl | rfl | rfl | rfl | rfl <;> ((go_wp2_with fail); go_ret; exact ⟨by rw [HF.out]; first | rfl | (simp [sideS, stS, ← ByteArray.mk_append_mk]; done) | (simp [sideS, stS, ← ByteArray.mk_append_mk]; rfl), hb1'.trans (hH.mono (by omega))⟩)
  · have hf : labS l = [] := by unfold labS; rw [if_neg hk]
    rw [hf]
    go_enter Tryz.func85, Tryz.ntmps85
    go_wp2_with (go_at_call 127; refine (lvalidb_any l _).mono ?_; rintro e w' ⟨rfl, hb⟩)
    go_ret
    exact ⟨rfl, Below.trans (by (repeat (first | exact Below.refl _ _ | assumption | refine Below.alloc ?_ (by first | omega | (simp only [World.size_alloc]; omega) | (simp; done) | (simp; omega)) _ | refine Below.setCell ?_ (by first | omega | (simp only [World.size_alloc]; omega) | (simp; done) | (simp; omega)) _ | refine Below.drew ?_ | refine below_drewN ?_ _))) (hb.mono (by simp))⟩
end Go.Proofs.YtdokpmfejibdlaaGreatDoor
