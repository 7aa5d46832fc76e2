/- The law of the specimens of a die. -/
import Derived.Test.YtnaoagkelbjflaaGreatDoorUa
set_option linter.unusedSimpArgs false
set_option linter.unusedVariables false
namespace Go.Proofs.YtnaoagkelbjflaaGreatDoor
open Go.RowKit

theorem struck0 {n : Int} {x : Spm} : struck 0 n x = true ↔ x.obv = n := by simp [struck]
theorem struck1 {n : Int} {x : Spm} : struck 1 n x = true ↔ x.rev = n := by simp [struck]
theorem of_has {l : List Spm} {side num : Int} (hn : (idsOf l).Nodup) (h : ofE l side num = 0) {x : Spm} (hx : x ∈ l) : x.id ∈ ofL l side num ↔ struck side num x = true := by
  rw [ofL_mem h]
  constructor
  · rintro ⟨y, hy, h1, h2⟩
    rw [← id_inj hn hy hx h2]; exact h1
  · intro h1; exact ⟨x, hx, h1, rfl⟩
theorem ofE_valid {l : List Spm} {side num : Int} (h : chk l = 0) (h1 : okDie side num = true) : ofE l side num = 0 := ofE_ok h h1
theorem ok_obv {x : Spm} (h : validS x = true) : okDie 0 x.obv = true := by
  obtain ⟨h1, h2, _⟩ := (validS_iff x).1 h
  simp [okDie, inR]; omega
theorem ok_rev {x : Spm} (h : validS x = true) : okDie 1 x.rev = true := by
  obtain ⟨h1, h2, _⟩ := (validS_iff x).1 h
  simp [okDie, inR]; omega
theorem ofL_len (l : List Spm) (side num : Int) : (ofL l side num).length ≤ l.length := by
  unfold ofL
  split
  · rw [List.length_map]; have := List.length_filter_le (struck side num) (sortS l); rw [sortS_len] at this; exact this
  · simp

set_option maxRecDepth 100000 in
set_option maxHeartbeats 4000000 in
theorem dies_law (A : Option Addr) (len cap : Nat) (xs : List Spm) (w : World) (hE : Env w) (hS : Sl w 0 w.heap.size 7 encS A len xs) (hlm : len ≤ maxLen) :
    Calls Tryz.prog 6 #[.slice A len cap] w fun e w' => e = .returned (.bool true) ∧ Below w.heap.size w w' := by
  have hE' := Lib.hid hE; clear hE
  have HS := Lib.hid hS; clear hS
  go_enter Tryz.func6, Tryz.ntmps6
  by_cases hl : 64 < len
  · go_wp2_with fail
    refine (awake_any _ hE'.out).mono ?_; rintro e w1 ⟨rfl, hb⟩
    go_wp2_with fail
    refine (awake_any _ (hE'.out.step hb)).mono ?_; rintro e w2 ⟨rfl, hb2⟩
    (replace hb := hb.trans (hb2.mono hb.size)); clear hb2
    go_wp2_with fail
    go_ret
    exact ⟨rfl, hb⟩
  have hl' : len ≤ 64 := by omega
  clear hl
  go_wp2_with fail
  refine (awake_any _ hE'.out).mono ?_; rintro e w1 ⟨rfl, hb⟩
  go_wp2_with fail
  refine (rcheck_any A len cap xs _ (by omega) (HS.out.up hb (Nat.le_refl _) (Nat.le_refl _))).mono ?_; rintro e w2 ⟨rfl, hb2⟩
  (replace hb := hb.trans (hb2.mono hb.size)); clear hb2
  by_cases hc : ¬ chk xs = 0
  · have hd : (chk xs != 0) = true := by simpa using hc
    generalize chk xs = c at *
    clear hc
    go_wp2_with fail
    refine (awake_any _ (hE'.out.step hb)).mono ?_; rintro e w3 ⟨rfl, hb2⟩
    (replace hb := hb.trans (hb2.mono hb.size)); clear hb2
    go_wp2_with fail
    go_ret
    exact ⟨rfl, hb⟩
  replace hc := Classical.not_not.1 hc
  rw [hc]
  have HC := Lib.hid hc; clear hc
  have HV : Hid (∀ x ∈ xs, validS x = true) := ((chk_zero xs).1 HC.out).2.1
  have HN : Hid ((idsOf xs).Nodup) := ((chk_zero xs).1 HC.out).2.2
  have HL : Hid (xs.length = len) := HS.out.len
  have HB := Lib.hid hb; clear hb
  go_wp2_with fail
  go_loopw [3] (fun i wr => ∃ k : Nat, k ≤ len ∧ i = .int .i64 (k : Int) ∧ Below w.heap.size w wr) (fun i _ => len - (intOf i).toNat)
  case atStart => exact ⟨0, by omega, rfl, HB.out⟩
  case round =>
    obtain ⟨k, hk, rfl, hb⟩ := hrel
    by_cases hlt : k < len
    · obtain ⟨b, off, x, rfl, hbb, hx, c0, c1, c2, c3, c4, c5, c6⟩ := (HS.out.below hb (Nat.le_refl _)).sp hlt
      have hxm : x ∈ xs := List.mem_of_getElem? hx
      have HXM := Lib.hid hxm
      have HX := Lib.hid hx
      have HE0 : Hid (ofE xs 0 x.obv = 0) := ofE_ok HC.out (ok_obv (HV.out x hxm))
      have HE1 : Hid (ofE xs 1 x.rev = 0) := ofE_ok HC.out (ok_rev (HV.out x hxm))
      clear hx hxm
      have hw : b < wr.heap.size := by have := hb.size; omega
      go_wp2_with fail
      refine (sof_any _ len cap xs 0 x.obv _ (by omega) (HS.out.up hb (Nat.le_refl _) (Nat.le_refl _))).mono ?_
      rintro e w3 ⟨⟨O, no, co, rfl, hO⟩, hb3⟩
      rw [HE0.out]
      replace hO := hO.any
      have q0 := (hb3.cell (p := ⟨b, off + k * 7, none⟩) hw).trans c0
      have q2 := (hb3.cell (p := ⟨b, off + k * 7 + 2, none⟩) hw).trans c2
      have hw3 : b < w3.heap.size := by have := hb3.size; omega
      (replace hb := hb.trans (hb3.mono hb.size)); clear hb3
      clear c0 c1 c2 c3 c4 c5 c6
      go_wp2_with fail
      refine (sof_any _ len cap xs 1 x.rev _ (by omega) (HS.out.up hb (Nat.le_refl _) (Nat.le_refl _))).mono ?_
      rintro e w4 ⟨⟨R, nr, cr, rfl, hR⟩, hb4⟩
      rw [HE1.out]
      replace hR := hR.any
      have r0 := (hb4.cell (p := ⟨b, off + k * 7, none⟩) hw3).trans q0
      (replace hb := hb.trans (hb4.mono hb.size)); replace hO := hO.up hb4 (Nat.le_refl _) (Nat.le_refl _); clear hb4
      clear q0 q2
      have hno : no ≤ 64 := by have := hO.len; have := ofL_len xs 0 x.obv; have := HL.out; omega
      have hnr : nr ≤ 64 := by have := hR.len; have := ofL_len xs 1 x.rev; have := HL.out; omega
      have HH0 : Hid (∀ y ∈ xs, decide (y.id ∈ ofL xs 0 x.obv) = decide (y.obv = x.obv)) := fun y hy => by
        rw [decide_eq_decide, of_has HN.out HE0.out hy, struck0]
      have HH1 : Hid (∀ y ∈ xs, decide (y.id ∈ ofL xs 1 x.rev) = decide (y.rev = x.rev)) := fun y hy => by
        rw [decide_eq_decide, of_has HN.out HE1.out hy, struck1]
      have hd0 := (HH0.out x HXM.out).trans (decide_eq_true rfl)
      have hd1 := (HH1.out x HXM.out).trans (decide_eq_true rfl)
      have HD0 := Lib.hid hd0; have HD1 := Lib.hid hd1
      clear hd0 hd1
      generalize ofL xs 0 x.obv = ol at *
      generalize ofL xs 1 x.rev = rl at *
      go_wp2_with fail
      refine (has_any O no co ol x.id _ (by omega) hO).mono ?_; rintro e w5 ⟨rfl, rfl⟩
      rw [HD0.out]
      go_wp2_with fail
      refine (has_any R nr cr rl x.id _ (by omega) hR).mono ?_; rintro e w5 ⟨rfl, rfl⟩
      rw [HD1.out]
      clear r0
      have HB4 := Lib.hid hb; clear hb
      have HO := Lib.hid hO; clear hO
      have HR := Lib.hid hR; clear hR
      clear HD0 HD1
      go_wp2_with fail
      go_loopw [8] (fun i wr => ∃ m : Nat, m ≤ len ∧ i = .int .i64 (m : Int) ∧ Below w4.heap.size w4 wr) (fun i _ => len - (intOf i).toNat)
      case atStart => exact ⟨0, by omega, rfl, Below.refl _ _⟩
      case round =>
        obtain ⟨m, hm, rfl, hbv⟩ := hrel
        have HBW : Hid (Below w.heap.size w wr) := HB4.out.trans (hbv.mono HB4.out.size)
        by_cases hmt : m < len
        · have hO : Sl wr 0 wr.heap.size 1 encI O no ol := HO.out.up hbv (Nat.le_refl _) (Nat.le_refl _)
          have hR : Sl wr 0 wr.heap.size 1 encI R nr rl := HR.out.up hbv (Nat.le_refl _) (Nat.le_refl _)
          obtain ⟨b', off', x', hbo', _, hx', p0, p1, p2, _, _, _, _⟩ := (HS.out.below HBW.out (Nat.le_refl _)).sp hlt
          obtain ⟨b'', off'', y, hbo, _, hy, c0, c1, c2, _, _, _, _⟩ := (HS.out.below HBW.out (Nat.le_refl _)).sp hmt
          obtain rfl := Option.some.inj (HX.out.symm.trans hx')
          injection hbo' with hbo'
          injection hbo' with e1 e2
          injection hbo with hbo
          injection hbo with e3 e4
          subst e1 e2 e3 e4
          have hym : y ∈ xs := List.mem_of_getElem? hy
          clear hy hx'
          by_cases h0 : y.obv = x.obv
          · by_cases h1 : y.rev = x.rev
            · skip
              have e0 : (y.obv == x.obv) = true := by simpa using h0
              have e1 : (y.rev == x.rev) = true := by simpa using h1
              have d0 : decide (y.id ∈ ol) = true := by rw [HH0.out y hym]; simpa using h0
              have d1 : decide (y.id ∈ rl) = true := by rw [HH1.out y hym]; simpa using h1
              have HQ0 : Hid (∀ n, Calls Tryz.prog 25 #[.slice O no co, .int .i64 y.id] (wr.drewN n) fun e w' => e = .returned (.bool true) ∧ w' = wr.drewN n) := fun n => (has_any O no co ol y.id (wr.drewN n) (by omega) hO).mono fun e w' ⟨h1, h2⟩ => ⟨by rw [h1, d0], h2.symm⟩
              have HQ1 : Hid (∀ n, Calls Tryz.prog 25 #[.slice R nr cr, .int .i64 y.id] (wr.drewN n) fun e w' => e = .returned (.bool true) ∧ w' = wr.drewN n) := fun n => (has_any R nr cr rl y.id (wr.drewN n) (by omega) hR).mono fun e w' ⟨h1, h2⟩ => ⟨by rw [h1, d1], h2.symm⟩
              clear h0 h1 d0 d1 hym
              go_wp2_with fail
              go_quiet (first | (go_at_call 25; with_reducible refine Calls.quiet_of_same (HQ0.out _)) | (go_at_call 25; with_reducible refine Calls.quiet_of_same (HQ1.out _)))
              go_wp2_with fail
              go_roundw
              case rel => exact ⟨m + 1, by omega, by go_num, below_drewN hbv _⟩
              case measure => simp [intOf]; omega
            · skip
              have e0 : (y.obv == x.obv) = true := by simpa using h0
              have e1 : (y.rev == x.rev) = false := by simpa using h1
              have d0 : decide (y.id ∈ ol) = true := by rw [HH0.out y hym]; simpa using h0
              have d1 : decide (y.id ∈ rl) = false := by rw [HH1.out y hym]; simpa using h1
              have HQ0 : Hid (∀ n, Calls Tryz.prog 25 #[.slice O no co, .int .i64 y.id] (wr.drewN n) fun e w' => e = .returned (.bool true) ∧ w' = wr.drewN n) := fun n => (has_any O no co ol y.id (wr.drewN n) (by omega) hO).mono fun e w' ⟨h1, h2⟩ => ⟨by rw [h1, d0], h2.symm⟩
              have HQ1 : Hid (∀ n, Calls Tryz.prog 25 #[.slice R nr cr, .int .i64 y.id] (wr.drewN n) fun e w' => e = .returned (.bool false) ∧ w' = wr.drewN n) := fun n => (has_any R nr cr rl y.id (wr.drewN n) (by omega) hR).mono fun e w' ⟨h1, h2⟩ => ⟨by rw [h1, d1], h2.symm⟩
              clear h0 h1 d0 d1 hym
              go_wp2_with fail
              go_quiet (first | (go_at_call 25; with_reducible refine Calls.quiet_of_same (HQ0.out _)) | (go_at_call 25; with_reducible refine Calls.quiet_of_same (HQ1.out _)))
              go_wp2_with fail
              go_roundw
              case rel => exact ⟨m + 1, by omega, by go_num, below_drewN hbv _⟩
              case measure => simp [intOf]; omega
          · by_cases h1 : y.rev = x.rev
            · skip
              have e0 : (y.obv == x.obv) = false := by simpa using h0
              have e1 : (y.rev == x.rev) = true := by simpa using h1
              have d0 : decide (y.id ∈ ol) = false := by rw [HH0.out y hym]; simpa using h0
              have d1 : decide (y.id ∈ rl) = true := by rw [HH1.out y hym]; simpa using h1
              have HQ0 : Hid (∀ n, Calls Tryz.prog 25 #[.slice O no co, .int .i64 y.id] (wr.drewN n) fun e w' => e = .returned (.bool false) ∧ w' = wr.drewN n) := fun n => (has_any O no co ol y.id (wr.drewN n) (by omega) hO).mono fun e w' ⟨h1, h2⟩ => ⟨by rw [h1, d0], h2.symm⟩
              have HQ1 : Hid (∀ n, Calls Tryz.prog 25 #[.slice R nr cr, .int .i64 y.id] (wr.drewN n) fun e w' => e = .returned (.bool true) ∧ w' = wr.drewN n) := fun n => (has_any R nr cr rl y.id (wr.drewN n) (by omega) hR).mono fun e w' ⟨h1, h2⟩ => ⟨by rw [h1, d1], h2.symm⟩
              clear h0 h1 d0 d1 hym
              go_wp2_with fail
              go_quiet (first | (go_at_call 25; with_reducible refine Calls.quiet_of_same (HQ0.out _)) | (go_at_call 25; with_reducible refine Calls.quiet_of_same (HQ1.out _)))
              go_wp2_with fail
              go_roundw
              case rel => exact ⟨m + 1, by omega, by go_num, below_drewN hbv _⟩
              case measure => simp [intOf]; omega
            · skip
              have e0 : (y.obv == x.obv) = false := by simpa using h0
              have e1 : (y.rev == x.rev) = false := by simpa using h1
              have d0 : decide (y.id ∈ ol) = false := by rw [HH0.out y hym]; simpa using h0
              have d1 : decide (y.id ∈ rl) = false := by rw [HH1.out y hym]; simpa using h1
              have HQ0 : Hid (∀ n, Calls Tryz.prog 25 #[.slice O no co, .int .i64 y.id] (wr.drewN n) fun e w' => e = .returned (.bool false) ∧ w' = wr.drewN n) := fun n => (has_any O no co ol y.id (wr.drewN n) (by omega) hO).mono fun e w' ⟨h1, h2⟩ => ⟨by rw [h1, d0], h2.symm⟩
              have HQ1 : Hid (∀ n, Calls Tryz.prog 25 #[.slice R nr cr, .int .i64 y.id] (wr.drewN n) fun e w' => e = .returned (.bool false) ∧ w' = wr.drewN n) := fun n => (has_any R nr cr rl y.id (wr.drewN n) (by omega) hR).mono fun e w' ⟨h1, h2⟩ => ⟨by rw [h1, d1], h2.symm⟩
              clear h0 h1 d0 d1 hym
              go_wp2_with fail
              go_quiet (first | (go_at_call 25; with_reducible refine Calls.quiet_of_same (HQ0.out _)) | (go_at_call 25; with_reducible refine Calls.quiet_of_same (HQ1.out _)))
              go_wp2_with fail
              go_roundw
              case rel => exact ⟨m + 1, by omega, by go_num, below_drewN hbv _⟩
              case measure => simp [intOf]; omega
        · obtain rfl : m = len := by omega
          go_wp2_with fail
          go_roundw
          case rel => exact ⟨k + 1, by omega, by go_num, HBW.out⟩
          case measure => simp [intOf]; omega
    · obtain rfl : k = len := by omega
      go_wp2_with fail
      go_ret
      exact ⟨rfl, hb⟩
end Go.Proofs.YtnaoagkelbjflaaGreatDoor
