/- Chapter 46: valid listings, the program's and the reference's. -/
import Derived.Test.YtccmchmemafjdaaGreatDoorOe
import Derived.IntWalk
set_option linter.unusedSimpArgs false
set_option linter.unusedVariables false
namespace Go.Proofs.YtccmchmemafjdaaGreatDoor
open Go.RowKit

theorem orderB_any (x y : Sal) (w : World) :
    Calls Tryz.prog 45 #[.agg #[.int .i64 x.y, .int .i64 x.h, .int .i64 x.l], .agg #[.int .i64 y.y, .int .i64 y.h, .int .i64 y.l]] w fun e w' => e = .returned (.int .i64 (ordS x y)) ∧ Below w.heap.size w w' :=
  (order_any x y w).mono fun e w' ⟨he, q, os, hw⟩ => ⟨he, by rw [hw]; exact below_grown_dn _ _ _ _ (Nat.le_refl _)⟩
theorem keep7 {w0 w1 : World} {p1 p2 p3 p4 p5 p6 p7 : Addr} {v1 v2 v3 v4 v5 v6 v7 : Value} (h1 : w0.cell? p1 = some v1) (h2 : w0.cell? p2 = some v2) (h3 : w0.cell? p3 = some v3) (h4 : w0.cell? p4 = some v4) (h5 : w0.cell? p5 = some v5) (h6 : w0.cell? p6 = some v6) (h7 : w0.cell? p7 = some v7)
    (l1 : p1.block < w0.heap.size) (l2 : p2.block < w0.heap.size) (l3 : p3.block < w0.heap.size) (l4 : p4.block < w0.heap.size) (l5 : p5.block < w0.heap.size) (l6 : p6.block < w0.heap.size) (l7 : p7.block < w0.heap.size) (hb : Below w0.heap.size w0 w1) :
    w1.cell? p1 = some v1 ∧ w1.cell? p2 = some v2 ∧ w1.cell? p3 = some v3 ∧ w1.cell? p4 = some v4 ∧ w1.cell? p5 = some v5 ∧ w1.cell? p6 = some v6 ∧ w1.cell? p7 = some v7 ∧ Below w0.heap.size w0 w1 :=
  ⟨(hb.cell l1).trans h1, (hb.cell l2).trans h2, (hb.cell l3).trans h3, (hb.cell l4).trans h4, (hb.cell l5).trans h5, (hb.cell l6).trans h6, (hb.cell l7).trans h7, hb⟩
theorem last8 {a1 a2 a3 a4 a5 a6 a7 z : Prop} (h : a1 ∧ a2 ∧ a3 ∧ a4 ∧ a5 ∧ a6 ∧ a7 ∧ z) : z := h.2.2.2.2.2.2.2
set_option maxRecDepth 100000 in
set_option maxHeartbeats 2000000 in
theorem pvalid_any (id : Int) (A : Option Addr) (n c : Nat) (xs : List Sal) (w : World) (hn : n ≤ maxLen) (hS : SaS w A n xs) :
    Calls Tryz.prog 15 #[.agg #[.int .i64 id, .slice A n c]] w fun e w' => e = .returned (.bool (validB id xs)) ∧ Below w.heap.size w w' := by
  have hml : maxLen ≤ 9223372036854775807 := by unfold maxLen; omega
  have hnl : (n : Int) ≤ 9223372036854775807 := by omega
  have HL := Lib.hid (Sl.len hS)
  have HU : Hid (∀ W, Below w.heap.size w W → SaS W A n xs) := fun W hW => hS.up hW
  clear hS hn hml
  cases hi : inR id 1 9999
  · have HV := Lib.hid (validB_id (xs := xs) hi)
    go_enter Tryz.func15, Tryz.ntmps15
    go_wp2_with (go_at_call 44; refine (within_any _ _ _ _).mono ?_; rintro e w' ⟨rfl, rfl⟩)
    go_ret
    exact ⟨by rw [HV.out]; rfl, by (repeat (first | exact Below.refl _ _ | assumption | refine Below.alloc ?_ (by first | omega | (simp only [World.size_alloc]; omega) | (simp; done) | (simp; omega)) _ | refine Below.setCell ?_ (by first | omega | (simp only [World.size_alloc]; omega) | (simp; done) | (simp; omega)) _ | refine Below.drew ?_ | refine below_drewN ?_ _))⟩
  by_cases h8 : 8 < n
  · have HV := Lib.hid (validB_len (id := id) (xs := xs) (by rw [HL.out]; exact h8))
    go_enter Tryz.func15, Tryz.ntmps15
    go_wp2_with (go_at_call 44; refine (within_any _ _ _ _).mono ?_; rintro e w' ⟨rfl, rfl⟩)
    go_ret
    exact ⟨by rw [HV.out]; rfl, by (repeat (first | exact Below.refl _ _ | assumption | refine Below.alloc ?_ (by first | omega | (simp only [World.size_alloc]; omega) | (simp; done) | (simp; omega)) _ | refine Below.setCell ?_ (by first | omega | (simp only [World.size_alloc]; omega) | (simp; done) | (simp; omega)) _ | refine Below.drew ?_ | refine below_drewN ?_ _))⟩
  have HI := Lib.hid hi
  go_enter Tryz.func15, Tryz.ntmps15
  go_wp2_with (go_at_call 44; refine (within_any _ _ _ _).mono ?_; rintro e w' ⟨rfl, rfl⟩)
  clear hi hnl
  go_loopw [18] (fun s wr => ∃ k : Nat, k ≤ n ∧ s = .int .i64 (k : Int) ∧ (∀ x ∈ xs.take k, okSal x) ∧ (xs.take k).Pairwise ltSal ∧ Bx wr w.heap.size [.int .i64 id, .slice A n c] ∧ Below w.heap.size w wr) (fun s _ => n - (intOf s).toNat)
  case atStart => exact ⟨0, by omega, rfl, by simp, by simp, Bx.new _ _ _, one_alloc _ _⟩
  case round =>
    obtain ⟨k, hk, rfl, hok, hasc, Z, hb⟩ := hrel
    have HO := Lib.hid hok; clear hok
    have HA := Lib.hid hasc; clear hasc
    by_cases hlt : k < n
    · obtain ⟨b, off, x, rfl, hbb, hx, c0, c1, c2⟩ := Sl.sa (HU.out _ hb) hlt
      have HX := Lib.hid hx; clear hx
      have Z0 := Z.cell 0 _ rfl; have Z1 := Z.cell 1 _ rfl; have Zlt := Z.lt
      go_wp2_with fail
      have V := Bx.new wr [.int .i64 x.y, .int .i64 x.h, .int .i64 x.l] 57
      have hb0 : Below w.heap.size w (wr.alloc (.cells #[.int .i64 x.y, .int .i64 x.h, .int .i64 x.l] 57)) := hb.alloc hb.size _
      have hbw := one_alloc wr (.cells #[.int .i64 x.y, .int .i64 x.h, .int .i64 x.l] 57)
      replace Z := Z.up hbw
      clear Z0 Z1 Zlt c0 c1 c2 hb hbb hbw
      generalize wr.alloc (.cells #[.int .i64 x.y, .int .i64 x.h, .int .i64 x.l] 57) = W0 at *
      generalize wr.heap.size = bs at *
      have Z0 := Z.cell 0 _ rfl; have Z1 := Z.cell 1 _ rfl; have Zlt := Z.lt
      have V0 := V.cell 0 _ rfl; have V1 := V.cell 1 _ rfl; have V2 := V.cell 2 _ rfl; have Vlt := V.lt
      have HW : Hid (∀ (a lo hi : Int) (q : Nat), Calls Tryz.prog 44 #[.int .i64 a, .int .i64 lo, .int .i64 hi] (W0.drewN q) fun e w' => e = .returned (.bool (inR a lo hi)) ∧ w' = W0.drewN q) := fun a lo hi q => within_any a lo hi _
      cases h1 : inR x.y 1700 2100
      · have HV : Hid (validB id xs = false) := validB_sale HX.out (by rw [okSal_B, h1]; rfl)
        rw [Bool.eq_false_iff] at h1
        replace h1 := (Bool.not_eq_true _).mp h1
        go_wp2_with fail
        go_quiet ((go_at_call 44; with_reducible refine Calls.quiet_of_same (HW.out _ _ _ _)))
        go_wp2_with fail
        go_ret
        exact ⟨by rw [HV.out]; rfl, below_drewN hb0 _⟩
      cases h2 : inR x.h 1 999
      · have HV : Hid (validB id xs = false) := validB_sale HX.out (by rw [okSal_B, h1, h2]; rfl)
        go_wp2_with fail
        go_quiet ((go_at_call 44; with_reducible refine Calls.quiet_of_same (HW.out _ _ _ _)))
        go_wp2_with fail
        go_ret
        exact ⟨by rw [HV.out]; rfl, below_drewN hb0 _⟩
      cases h3 : inR x.l 1 9999
      · have HV : Hid (validB id xs = false) := validB_sale HX.out (by rw [okSal_B, h1, h2, h3]; rfl)
        go_wp2_with fail
        go_quiet ((go_at_call 44; with_reducible refine Calls.quiet_of_same (HW.out _ _ _ _)))
        go_wp2_with fail
        go_ret
        exact ⟨by rw [HV.out]; rfl, below_drewN hb0 _⟩
      have HOK : Hid (okSal x) := by
        show okSal x
        exact of_decide_eq_true (by rw [okSal_B, h1, h2, h3]; rfl)
      rcases Nat.eq_zero_or_pos k with rfl | hk0
      · simp only [Int.ofNat_zero, Int.natCast_zero]
        go_wp2_with fail
        go_quiet ((go_at_call 44; with_reducible refine Calls.quiet_of_same (HW.out _ _ _ _)))
        go_wp2_with fail
        go_roundw
        case rel => exact ⟨1, by omega, by go_num, all_take (p := okSal) (k := 0) HX.out HO.out HOK.out, by rw [take_snocS (k := 0) HX.out]; simp, Z.drewN _, below_drewN hb0 _⟩
        case measure => simp [intOf]; omega
      · obtain ⟨m, rfl⟩ : ∃ m, k = m + 1 := ⟨k - 1, by omega⟩
        obtain ⟨b', off', y, hA', hbb', hy, d0, d1, d2⟩ := Sl.sa (HU.out _ hb0) (show m < n by omega)
        simp only [Option.some.injEq, Addr.mk.injEq, and_true] at hA'
        obtain ⟨rfl, rfl⟩ := hA'
        have HY := Lib.hid hy; clear hy
        have hm8 : (m : Int) ≤ 8 := by omega
        have hm0 : (0 : Int) ≤ (m : Int) := by omega
        have hmn : (m : Int) < (n : Int) := by omega
        have hmw : IntKind.i64.wrap (m : Int) = (m : Int) := IntWalk.i64_in _ (by omega)
        have hm1 : (0 : Int) < (m : Int) + 1 := by omega
        have HQ : Hid (ordS y x = if ltSal y x then -1 else ordS y x) := by
          show _ = _
          split
          · rename_i h
            rcases ordS_cases y x with ⟨_, e⟩ | ⟨h', e⟩ | ⟨h', e⟩
            · exact e
            · subst h'; exact absurd h (ltSal_irr _)
            · exact absurd (ltSal_trans h h') (ltSal_irr _)
          · rfl
        have hge := ordS_ge (a := y) (b := x)
        have HCO := Lib.hid (fun V => orderB_any y x V)
        cases hl : decide (ltSal y x)
        · have HV : Hid (validB id xs = false) := validB_asc HY.out HX.out hl
          rw [hl] at hge
          generalize ordS y x = oc at *
          have hge2 : decide (0 ≤ oc) = true := hge
          clear hge hl HQ
          go_wp2_with fail
          go_region_held3 (fun U => U.cell? ⟨w.heap.size, 1, none⟩ = some (.slice (some ⟨b, off, none⟩) n c) ∧ U.cell? ⟨b, off + m * 3, none⟩ = some (.int .i64 y.y) ∧ U.cell? ⟨b, off + m * 3 + 1, none⟩ = some (.int .i64 y.h) ∧ U.cell? ⟨b, off + m * 3 + 2, none⟩ = some (.int .i64 y.l) ∧ U.cell? ⟨bs, 0, none⟩ = some (.int .i64 x.y) ∧ U.cell? ⟨bs, 1, none⟩ = some (.int .i64 x.h) ∧ U.cell? ⟨bs, 2, none⟩ = some (.int .i64 x.l) ∧ Below W0.heap.size W0 U)
            (first | exact keep7 Z1 d0 d1 d2 V0 V1 V2 Zlt hbb' hbb' hbb' Vlt Vlt Vlt (Below.drew (Below.refl _ _)) | exact keep7 Z1 d0 d1 d2 V0 V1 V2 Zlt hbb' hbb' hbb' Vlt Vlt Vlt (below_keep' (last8 (by assumption)) (by assumption)) | go_keep)
            (first
              | (go_at_call 44; refine (within_any _ _ _ _).mono ?_; rintro e w2 ⟨rfl, rfl⟩)
              | (go_at_call 45; refine (HCO.out _).mono ?_; rintro e w2 ⟨rfl, hb2⟩))
          all_goals
            rename_i hH
            have hb3 := below_keep' hb0 (last8 hH)
            clear hH
            go_wp2_with fail
            go_ret
            exact ⟨by rw [HV.out]; rfl, hb3⟩
        · have HLT : Hid (ltSal y x) := by show ltSal y x; exact of_decide_eq_true hl
          rw [hl] at hge
          generalize ordS y x = oc at *
          have hge2 : decide (0 ≤ oc) = false := hge
          clear hge hl HQ
          go_wp2_with fail
          go_region_held3 (fun U => U.cell? ⟨w.heap.size, 1, none⟩ = some (.slice (some ⟨b, off, none⟩) n c) ∧ U.cell? ⟨b, off + m * 3, none⟩ = some (.int .i64 y.y) ∧ U.cell? ⟨b, off + m * 3 + 1, none⟩ = some (.int .i64 y.h) ∧ U.cell? ⟨b, off + m * 3 + 2, none⟩ = some (.int .i64 y.l) ∧ U.cell? ⟨bs, 0, none⟩ = some (.int .i64 x.y) ∧ U.cell? ⟨bs, 1, none⟩ = some (.int .i64 x.h) ∧ U.cell? ⟨bs, 2, none⟩ = some (.int .i64 x.l) ∧ Below W0.heap.size W0 U)
            (first | exact keep7 Z1 d0 d1 d2 V0 V1 V2 Zlt hbb' hbb' hbb' Vlt Vlt Vlt (Below.drew (Below.refl _ _)) | exact keep7 Z1 d0 d1 d2 V0 V1 V2 Zlt hbb' hbb' hbb' Vlt Vlt Vlt (below_keep' (last8 (by assumption)) (by assumption)) | go_keep)
            (first
              | (go_at_call 44; refine (within_any _ _ _ _).mono ?_; rintro e w2 ⟨rfl, rfl⟩)
              | (go_at_call 45; refine (HCO.out _).mono ?_; rintro e w2 ⟨rfl, hb2⟩))
          all_goals
            rename_i hH
            have hb4 := last8 hH
            have hb3 := below_keep' hb0 hb4
            clear hH
            replace Z := Z.up hb4
            go_wp2_with fail
            go_roundw
            case rel => exact ⟨m + 1 + 1, by omega, by go_num, all_take (p := okSal) HX.out HO.out HOK.out, asc_snocS HA.out HY.out HX.out HLT.out, Z, hb3⟩
            case measure => simp [intOf]; omega
    · obtain rfl : k = n := by omega
      have HV : Hid (validB id xs = true) := by
        have h1 := HO.out
        have h2 := HA.out
        rw [take_all HL.out] at h1 h2
        exact validB_yes HI.out (by rw [HL.out]; omega) h1 h2
      go_wp2_with fail
      go_ret
      exact ⟨by rw [HV.out]; rfl, hb⟩
end Go.Proofs.YtccmchmemafjdaaGreatDoor
