
/- The reference's numerals and labels. -/
import Derived.Test.YtdokpmfejibdlaaGreatDoorS5d
import Derived.Test.YtdokpmfejibdlaaGreatDoorDecL
import Derived.Deep.RegionHeld3
set_option linter.unusedSimpArgs false
set_option linter.unusedVariables false
namespace Go.Proofs.YtdokpmfejibdlaaGreatDoor
open Go.RowKit

theorem numAt_any (n : Nat) (w : World) (hn : n < 18446744073709551616) :
    Calls Tryz.prog 84 #[.int .u64 n] w fun e w1 => ∃ A' m c', e = .returned (.agg #[.slice A' m c']) ∧ Below w.heap.size w w1 ∧
      ∀ W, Below w1.heap.size w1 W → Calls Tryz.prog 83 #[.agg #[.slice A' m c']] W fun e w2 => e = .returned (.string ⟨(Lib.decDigits n).toArray⟩) ∧ Below W.heap.size W w2 := by
  refine (of_any n hn w).mono ?_
  rintro e w1 ⟨A', m, c', rfl, hS, hb⟩
  refine ⟨A', m, c', rfl, hb, fun W hW => ?_⟩
  have h := natText_of n hn
  refine (text_any _ (fun x hx => of_lt n hn x (mem_trim hx)) ?_ A' m c' W ((hS.up hW (Nat.le_refl _) (Nat.le_refl _)).any)).mono ?_
  · exact Nat.le_trans (trim_le _) (by simp)
  · rintro e w2 ⟨rfl, hb2⟩
    exact ⟨by rw [h], hb2⟩
theorem rdec9_any (n : Int) (w : World) (h1 : 0 ≤ n) (h2 : n ≤ 1000000) :
    Calls Tryz.prog 104 #[.int .i64 n] w fun e w' => e = .returned (.string ⟨(Lib.itoa n).toArray⟩) ∧ Below w.heap.size w w' := by
  have HF := Lib.hid (itoa_nat n h1)
  obtain ⟨k, rfl⟩ := Int.eq_ofNat_of_zero_le h1
  rw [HF.out, Int.toNat_natCast]
  clear HF
  go_enter Tryz.func104, Tryz.ntmps104
  go_wp2_with fail
  refine (numAt_any k _ (by omega)).mono ?_
  rintro e w1 ⟨A', m, c', rfl, hb1, hT⟩
  have HT := Lib.hid hT; clear hT
  go_wp2_with fail
  refine (HT.out _ (Below.refl _ _)).mono ?_
  rintro e w2 ⟨rfl, hb2⟩
  go_wp2_with fail
  go_ret
  exact ⟨rfl, hb1.trans (hb2.mono hb1.size)⟩
theorem rdec5_any (n : Int) (w : World) (h1 : 0 ≤ n) (h2 : n ≤ 1000000) :
    Calls Tryz.prog 129 #[.int .i64 n] w fun e w' => e = .returned (.string ⟨(Lib.itoa n).toArray⟩) ∧ Below w.heap.size w w' := by
  have HF := Lib.hid (itoa_nat n h1)
  obtain ⟨k, rfl⟩ := Int.eq_ofNat_of_zero_le h1
  rw [HF.out, Int.toNat_natCast]
  clear HF
  go_enter Tryz.func129, Tryz.ntmps129
  go_wp2_with fail
  refine (numAt_any k _ (by omega)).mono ?_
  rintro e w1 ⟨A', m, c', rfl, hb1, hT⟩
  have HT := Lib.hid hT; clear hT
  go_wp2_with fail
  refine (HT.out _ (Below.refl _ _)).mono ?_
  rintro e w2 ⟨rfl, hb2⟩
  go_wp2_with fail
  go_ret
  exact ⟨rfl, hb1.trans (hb2.mono hb1.size)⟩

theorem keep3 {w0 w w1 : World} {b : Nat} {x y z : Value} (h : w.cell? ⟨b, 0, none⟩ = some x ∧ w.cell? ⟨b, 1, none⟩ = some y ∧ w.cell? ⟨b, 2, none⟩ = some z ∧ Below w0.heap.size w0 w) (hz : b < w0.heap.size) (hb : Below w.heap.size w w1) :
    w1.cell? ⟨b, 0, none⟩ = some x ∧ w1.cell? ⟨b, 1, none⟩ = some y ∧ w1.cell? ⟨b, 2, none⟩ = some z ∧ Below w0.heap.size w0 w1 := by
  have := h.2.2.2.size
  exact ⟨(hb.cell (p := ⟨b, 0, none⟩) (by show b < _; omega)).trans h.1, (hb.cell (p := ⟨b, 1, none⟩) (by show b < _; omega)).trans h.2.1, (hb.cell (p := ⟨b, 2, none⟩) (by show b < _; omega)).trans h.2.2.1, h.2.2.2.trans (hb.mono this)⟩
theorem keepC {w0 w w1 : World} {b : Nat} {l : List Value} (h : (∀ j u, l[j]? = some u → w.cell? ⟨b, j, none⟩ = some u) ∧ Below w0.heap.size w0 w) (hz : b < w0.heap.size) (hb : Below w.heap.size w w1) :
    (∀ j u, l[j]? = some u → w1.cell? ⟨b, j, none⟩ = some u) ∧ Below w0.heap.size w0 w1 := by
  have := h.2.size
  exact ⟨fun j u hj => (hb.cell (p := ⟨b, j, none⟩) (by show b < _; omega)).trans (h.1 j u hj), h.2.trans (hb.mono this)⟩

theorem itoa3 (n : Int) (h1 : 1 ≤ n) (h2 : n ≤ 999) : (Lib.itoa n).length ≤ 3 := by
  rw [itoa_nat n (by omega)]; exact decDigits_le 2 _ (by omega)

set_option maxRecDepth 100000 in
set_option maxHeartbeats 1000000 in
theorem rltext_any (l : Lab) (w : World) :
    Calls Tryz.prog 86 #[.agg #[.int .i64 l.side, .int .i64 l.num, .int .i64 l.st]] w fun e w' => e = .returned (.string ⟨(labS l).toArray⟩) ∧ Below w.heap.size w w' := by
  by_cases hk : okLab l = true
  · obtain ⟨hs, ⟨hn1, hn2⟩, hs1, hs2⟩ := (okLab_iff l).1 hk
    have hl := itoa3 l.num hn1 hn2
    have HF := Lib.hid (labS_ok hk)
    have HK := Lib.hid hk; clear hk
    obtain ⟨side, num, st⟩ := l
    simp only at hs hs1 hs2 hn1 hn2 hl
    have hst : st = 0 ∨ st = 1 ∨ st = 2 ∨ st = 3 ∨ st = 4 ∨ st = 5 ∨ st = 6 ∨ st = 7 ∨ st = 8 ∨ st = 9 := by omega
    clear hs1 hs2
    have hq0 := add_lists (P := Tryz.prog) [79] (Lib.itoa num) (by simp; omega)
    have hq1 := add_lists (P := Tryz.prog) [82] (Lib.itoa num) (by simp; omega)
    simp only [List.cons_append, List.nil_append] at hq0 hq1
    have hw1 : IntKind.i64.wrap 1 = 1 := by decide
    have hw2 : IntKind.i64.wrap 2 = 2 := by decide
    have hx0 : (ByteArray.mk #[79, 82]).extract 0 1 = ⟨[79].toArray⟩ := rfl
    have hx1 : (ByteArray.mk #[79, 82]).extract 1 2 = ⟨[82].toArray⟩ := rfl
    go_enter Tryz.func86, Tryz.ntmps86
    go_wp2_with fail
    refine (rlvalidb_any ⟨side, num, st⟩ _).mono ?_; rintro e w1 ⟨rfl, hb1⟩
    simp only [World.size_alloc] at hb1
    have c0 : w1.cell? ⟨w.heap.size, 0, none⟩ = some (.int .i64 side) := (hb1.cell (by first | (simp; done) | (simp; omega) | (show _ < _; omega))).trans (by simp); have fc0 : w1.frozen? ⟨w.heap.size, 0, none⟩ = false := (hb1.frozen (by first | (simp; done) | (simp; omega) | (show _ < _; omega))).trans (by simp)
    have c1 : w1.cell? ⟨w.heap.size, 1, none⟩ = some (.int .i64 num) := (hb1.cell (by first | (simp; done) | (simp; omega) | (show _ < _; omega))).trans (by simp); have fc1 : w1.frozen? ⟨w.heap.size, 1, none⟩ = false := (hb1.frozen (by first | (simp; done) | (simp; omega) | (show _ < _; omega))).trans (by simp)
    have c2 : w1.cell? ⟨w.heap.size, 2, none⟩ = some (.int .i64 st) := (hb1.cell (by first | (simp; done) | (simp; omega) | (show _ < _; omega))).trans (by simp); have fc2 : w1.frozen? ⟨w.heap.size, 2, none⟩ = false := (hb1.frozen (by first | (simp; done) | (simp; omega) | (show _ < _; omega))).trans (by simp)
    have hz1 : w.heap.size < w1.heap.size := by have := hb1.size; simp at this; omega
    have hb1' : Below w.heap.size w w1 := Below.trans (by (repeat (first | exact Below.refl _ _ | assumption | refine Below.alloc ?_ (by first | omega | (simp only [World.size_alloc]; omega) | (simp; done) | (simp; omega)) _ | refine Below.setCell ?_ (by first | omega | (simp only [World.size_alloc]; omega) | (simp; done) | (simp; omega)) _ | refine Below.drew ?_ | refine below_drewN ?_ _))) (hb1.mono (by omega))
    rw [HK.out]
    rcases hs with rfl | rfl
    · go_wp2_with fail
      go_region_held3 (fun W => W.cell? ⟨w.heap.size, 0, none⟩ = some (.int .i64 0) ∧ W.cell? ⟨w.heap.size, 1, none⟩ = some (.int .i64 num) ∧ W.cell? ⟨w.heap.size, 2, none⟩ = some (.int .i64 st) ∧ Below w1.heap.size w1 W)
        (first | exact ⟨c0, c1, c2, Below.drew (Below.refl _ _)⟩ | exact keep3 (by assumption) hz1 (by assumption) | go_keep)
        (first | (go_at_call 129; refine (rdec5_any _ _ (by omega) (by omega)).mono ?_; rintro e w2 ⟨rfl, hb2⟩))
      rename_i hH
      obtain ⟨d0, d1, d2, hH⟩ := hH
      rcases hst with rfl | rfl | rfl | rfl | rfl | rfl | rfl | rfl | rfl | rfl <;> ((go_wp2_with fail); go_ret; exact ⟨by rw [HF.out]; first | rfl | (simp [sideS, stS, ← ByteArray.mk_append_mk]; done) | (simp [sideS, stS, ← ByteArray.mk_append_mk]; rfl), hb1'.trans (hH.mono (by omega))⟩)
    · go_wp2_with fail
      go_region_held3 (fun W => W.cell? ⟨w.heap.size, 0, none⟩ = some (.int .i64 1) ∧ W.cell? ⟨w.heap.size, 1, none⟩ = some (.int .i64 num) ∧ W.cell? ⟨w.heap.size, 2, none⟩ = some (.int .i64 st) ∧ Below w1.heap.size w1 W)
        (first | exact ⟨c0, c1, c2, Below.drew (Below.refl _ _)⟩ | exact keep3 (by assumption) hz1 (by assumption) | go_keep)
        (first | (go_at_call 129; refine (rdec5_any _ _ (by omega) (by omega)).mono ?_; rintro e w2 ⟨rfl, hb2⟩))
      rename_i hH
      obtain ⟨d0, d1, d2, hH⟩ := hH
      rcases hst with rfl | rfl | rfl | rfl | rfl | rfl | rfl | rfl | rfl | rfl <;> ((go_wp2_with fail); go_ret; exact ⟨by rw [HF.out]; first | rfl | (simp [sideS, stS, ← ByteArray.mk_append_mk]; done) | (simp [sideS, stS, ← ByteArray.mk_append_mk]; rfl), hb1'.trans (hH.mono (by omega))⟩)
  · have hf : labS l = [] := by unfold labS; rw [if_neg hk]
    rw [hf]
    go_enter Tryz.func86, Tryz.ntmps86
    go_wp2_with (go_at_call 128; refine (rlvalidb_any l _).mono ?_; rintro e w' ⟨rfl, hb⟩)
    go_ret
    exact ⟨rfl, Below.trans (by (repeat (first | exact Below.refl _ _ | assumption | refine Below.alloc ?_ (by first | omega | (simp only [World.size_alloc]; omega) | (simp; done) | (simp; omega)) _ | refine Below.setCell ?_ (by first | omega | (simp only [World.size_alloc]; omega) | (simp; done) | (simp; omega)) _ | refine Below.drew ?_ | refine below_drewN ?_ _))) (hb.mono (by simp))⟩
end Go.Proofs.YtdokpmfejibdlaaGreatDoor
