/- Labels read: the program's Parse. -/
import Derived.Test.YtnaoagkelbjflaaGreatDoorSf
import Derived.Deep.DeepCutAuto
set_option linter.unusedSimpArgs false
set_option linter.unusedVariables false
namespace Go.Proofs.YtnaoagkelbjflaaGreatDoor
open Go.RowKit

def parseLabX (l : List UInt8) : Lab := (parseLab l).getD ⟨0, 0, 0⟩
def parseLabE (l : List UInt8) : Int := if (parseLab l).isSome then 0 else 3
def parseLabV (l : List UInt8) : Value := .tuple #[.agg #[.int .i64 ((parseLabX l)).side, .int .i64 ((parseLabX l)).num, .int .i64 ((parseLabX l)).st], .int .i64 (parseLabE l)]
theorem parseLabV_some {l : List UInt8} {x : Lab} (h : parseLab l = some x) : parseLabV l = .tuple #[.agg #[.int .i64 x.side, .int .i64 x.num, .int .i64 x.st], .int .i64 0] := by
  unfold parseLabV parseLabX parseLabE; rw [h]; rfl
theorem parseLabV_none {l : List UInt8} (h : parseLab l = none) : parseLabV l = .tuple #[.agg #[.int .i64 0, .int .i64 0, .int .i64 0], .int .i64 3] := by
  unfold parseLabV parseLabX parseLabE; rw [h]; rfl
theorem parseLab_nil : parseLab [] = none := by decide
theorem parseLab_cons (c : UInt8) (r : List UInt8) : parseLab (c :: r) = if labS ⟨sideC c, numL (endCut r), endSt r⟩ == c :: r then some ⟨sideC c, numL (endCut r), endSt r⟩ else none := by
  unfold parseLab
  show (if okLab ⟨sideC c, numL (endCut r), endSt r⟩ && labS ⟨sideC c, numL (endCut r), endSt r⟩ == c :: r then some (⟨sideC c, numL (endCut r), endSt r⟩ : Lab) else none) = _
  cases h : okLab ⟨sideC c, numL (endCut r), endSt r⟩
  · have : labS ⟨sideC c, numL (endCut r), endSt r⟩ = [] := by unfold labS; rw [if_neg (by rw [h]; decide)]
    rw [this]; rfl
  · simp
theorem Bx.all3 {w : World} {b : Nat} {a0 a1 a2 : Value} (h : Bx w b [a0, a1, a2]) (u0 u1 u2 : Value) : Bx (((w.setCell ⟨b, 0, none⟩ u0).setCell ⟨b, 1, none⟩ u1).setCell ⟨b, 2, none⟩ u2) b [u0, u1, u2] :=
  ((h.set (i := 0) (by simp) u0).set (i := 1) (by simp) u1).set (i := 2) (by simp) u2
theorem sideC_ib (c : UInt8) : Lib.indexByte [79, 82] c = sideC c := by
  unfold sideC
  by_cases h1 : c = 79
  · subst h1; rfl
  · by_cases h2 : c = 82
    · subst h2; rfl
    · rw [if_neg h1, if_neg h2]
      have e1 : ((79 : UInt8) == c) = false := by simpa using fun e => h1 e.symm
      have e2 : ((82 : UInt8) == c) = false := by simpa using fun e => h2 e.symm
      simp [Lib.indexByte, e1, e2]
theorem ibyte_any (c : UInt8) (w : World) : Calls Tryz.prog 91 #[.string ⟨#[79, 82]⟩, .int .u8 (c.toNat : Int)] w fun e w' => e = .returned (.int .i64 (sideC c)) ∧ w = w' :=
  (Tryz.strings_IndexByte ⟨#[79, 82]⟩ (c.toNat : Int) w).mono fun e w' ⟨he, hw⟩ => ⟨by rw [he, ← sideC_ib c]; simp, hw.symm⟩
theorem sideC_range (c : UInt8) : -1 ≤ sideC c ∧ sideC c ≤ 1 := by unfold sideC; split <;> (try split) <;> omega
theorem endSt_range (l : List UInt8) : 0 ≤ endSt l ∧ endSt l ≤ 9 := by
  unfold endSt
  split
  · split <;> omega
  · omega
theorem endCut_len (l : List UInt8) : (endCut l).length ≤ l.length := by
  unfold endCut; split
  · simp
  · exact Nat.le_refl _

set_option maxRecDepth 100000 in
set_option maxHeartbeats 1000000 in
theorem lparse_any (l : List UInt8) (w : World) (hs : l.length ≤ 5000) (hE : Env w) :
    Calls Tryz.prog 71 #[.string ⟨l.toArray⟩] w fun e w' => e = .returned (parseLabV l) ∧ Below w.heap.size w w' := by
  cases l with
  | nil =>
    have HV := Lib.hid (parseLabV_none parseLab_nil)
    go_enter Tryz.func71, Tryz.ntmps71
    go_wp2_with fail
    refine bodyPost_ret (v := parseLabV []) (by rw [HV.out]; simp [results, Tryz.results71, go_sem]) rfl ⟨rfl, by (repeat (first | exact Below.refl _ _ | assumption | refine Below.alloc ?_ (by first | omega | (simp only [World.size_alloc]; omega) | (simp; done) | (simp; omega)) _ | refine Below.setCell ?_ (by first | omega | (simp only [World.size_alloc]; omega) | (simp; done) | (simp; omega)) _ | refine Below.drew ?_ | refine below_drewN ?_ _))⟩
  | cons c r =>
    have HP := Lib.hid (parseLab_cons c r)
    have hcl := endCut_len r
    simp only [List.length_cons] at hs
    have h0 : ∀ h, (ByteArray.mk (c :: r).toArray)[0]'h = c := fun _ => rfl
    have hx1 : (ByteArray.mk (c :: r).toArray).extract 1 (r.length + 1) = ⟨r.toArray⟩ := by
      rw [ByteArray.extract_mk, List.take_of_length_le (by simp)]; rfl
    go_enter Tryz.func71, Tryz.ntmps71
    go_wp2_with fail
    refine (ibyte_any c _).mono ?_; rintro e w1 ⟨rfl, rfl⟩
    go_upto_region 6 with fail
    go_cut [6, 34] (fun s6 s34 wx => s6 = .int .i64 ((r.length : Int) - 1) ∧ s34 = .bool (decide (0 < endSt r)) ∧ Bx wx (w.heap.size + 1) [.int .i64 (sideC c), .int .i64 0, .int .i64 0] ∧ Bx wx w.heap.size [.int .i64 0, .int .i64 0, .int .i64 0] ∧ Below w.heap.size w wx)
    case first =>
      have hB0 := (Bx.new w [.int .i64 0, .int .i64 0, .int .i64 0] 55).alloc (.cells #[.int .i64 (sideC c), .int .i64 0, .int .i64 0] 55)
      have hB1 := Bx.new (w.alloc (.cells #[.int .i64 0, .int .i64 0, .int .i64 0] 55)) [.int .i64 (sideC c), .int .i64 0, .int .i64 0] 55
      rw [World.size_alloc] at hB1
      have HB0 := Lib.hid hB0; clear hB0
      have HB1 := Lib.hid hB1; clear hB1
      rcases List.eq_nil_or_concat r with rfl | ⟨r', d, rfl⟩
      · go_wp2_with fail
        go_meet
        exact ⟨by simp, rfl, HB1.out, HB0.out, by (repeat (first | exact Below.refl _ _ | assumption | refine Below.alloc ?_ (by first | omega | (simp only [World.size_alloc]; omega) | (simp; done) | (simp; omega)) _ | refine Below.setCell ?_ (by first | omega | (simp only [World.size_alloc]; omega) | (simp; done) | (simp; omega)) _ | refine Below.drew ?_ | refine below_drewN ?_ _))⟩
      · rw [List.concat_eq_append] at *
        have hd : ∀ h, (ByteArray.mk (r' ++ [d]).toArray)[r'.length]'h = d := fun h => by
          show (r' ++ [d]).toArray[r'.length] = d
          simp
        have hst : decide (0 < endSt (r' ++ [d])) = decide (97 ≤ d.toNat ∧ d.toNat ≤ 105) := by
          have hlast : (r' ++ [d]).getLast? = some d := by simp
          have : endSt (r' ++ [d]) = if 97 ≤ d.toNat ∧ d.toNat ≤ 105 then (d.toNat : Int) - 96 else 0 := by unfold endSt; rw [hlast]
          rw [this]
          by_cases h : 97 ≤ d.toNat ∧ d.toNat ≤ 105
          · rw [if_pos h, decide_eq_true h, decide_eq_true (by omega)]
          · rw [if_neg h, decide_eq_false h]; rfl
        have HST := Lib.hid hst; clear hst
        by_cases h1 : 97 ≤ d.toNat
        · by_cases h2 : d.toNat ≤ 105
          · go_wp2_with fail
            go_meet
            exact ⟨by simp, by rw [HST.out]; simp [h1, h2]; omega, HB1.out, HB0.out, by (repeat (first | exact Below.refl _ _ | assumption | refine Below.alloc ?_ (by first | omega | (simp only [World.size_alloc]; omega) | (simp; done) | (simp; omega)) _ | refine Below.setCell ?_ (by first | omega | (simp only [World.size_alloc]; omega) | (simp; done) | (simp; omega)) _ | refine Below.drew ?_ | refine below_drewN ?_ _))⟩
          · go_wp2_with fail
            go_meet
            exact ⟨by simp, by rw [HST.out]; simp [h2]; omega, HB1.out, HB0.out, by (repeat (first | exact Below.refl _ _ | assumption | refine Below.alloc ?_ (by first | omega | (simp only [World.size_alloc]; omega) | (simp; done) | (simp; omega)) _ | refine Below.setCell ?_ (by first | omega | (simp only [World.size_alloc]; omega) | (simp; done) | (simp; omega)) _ | refine Below.drew ?_ | refine below_drewN ?_ _))⟩
        · go_wp2_with fail
          go_meet
          exact ⟨by simp, by rw [HST.out]; simp [h1], HB1.out, HB0.out, by (repeat (first | exact Below.refl _ _ | assumption | refine Below.alloc ?_ (by first | omega | (simp only [World.size_alloc]; omega) | (simp; done) | (simp; omega)) _ | refine Below.setCell ?_ (by first | omega | (simp only [World.size_alloc]; omega) | (simp; done) | (simp; omega)) _ | refine Below.drew ?_ | refine below_drewN ?_ _))⟩
    case rest =>
    obtain ⟨rfl, rfl, P, B, hb⟩ := hcut
    clear h0 hx1
    go_upto_if 34 with fail
    go_cut [5, 6] (fun s5 s6 wx => s5 = .string ⟨(endCut r).toArray⟩ ∧ Bx wx (w.heap.size + 1) [.int .i64 (sideC c), .int .i64 0, .int .i64 (endSt r)] ∧ Bx wx w.heap.size [.int .i64 0, .int .i64 0, .int .i64 0] ∧ Below w.heap.size w wx)
    case first =>
      by_cases hpos : 0 < endSt r
      · obtain ⟨r', d, rfl, e1, h1, h2⟩ : ∃ r' d, r = r' ++ [d] ∧ endSt r = (d.toNat : Int) - 96 ∧ 97 ≤ d.toNat ∧ d.toNat ≤ 105 := by
          rcases List.eq_nil_or_concat r with rfl | ⟨r', d, rfl⟩
          · exact absurd hpos (by decide)
          · rw [List.concat_eq_append] at *
            have hlast : (r' ++ [d]).getLast? = some d := by simp
            have hh : endSt (r' ++ [d]) = if 97 ≤ d.toNat ∧ d.toNat ≤ 105 then (d.toNat : Int) - 96 else 0 := by unfold endSt; rw [hlast]
            by_cases h : 97 ≤ d.toNat ∧ d.toNat ≤ 105
            · rw [if_pos h] at hh
              exact ⟨r', d, rfl, hh, h.1, h.2⟩
            · rw [if_neg h] at hh; omega
        have hd : ∀ h, (ByteArray.mk (r' ++ [d]).toArray)[r'.length]'h = d := fun h => by
          show (r' ++ [d]).toArray[r'.length] = d
          simp
        have hx2 : (ByteArray.mk (r' ++ [d]).toArray).extract 0 r'.length = ⟨r'.toArray⟩ := by
          rw [ByteArray.extract_mk]; simp
        have hdl : (r' ++ [d]).dropLast = r' := List.dropLast_concat
        have e2 : endCut (r' ++ [d]) = r' := by unfold endCut; rw [if_pos hpos, hdl]
        have hdec : decide (0 < endSt (r' ++ [d])) = true := decide_eq_true hpos
        have HE1 := Lib.hid e1
        have HE2 := Lib.hid e2
        clear hdl e1 e2 hdec
        have P0 := P.cell 0 _ rfl; have Pf0 := P.frz 0; have P1 := P.cell 1 _ rfl; have Pf1 := P.frz 1; have P2 := P.cell 2 _ rfl; have Pf2 := P.frz 2; have Plt := P.lt
        go_wp2_with fail
        go_meet
        refine ⟨by rw [HE2.out], ?_, B.far (by simp) _, hb.setCell (by simp) _⟩
        have := P.set (i := 2) (by simp) (.int .i64 ((d.toNat : Int) - 97 + 1))
        rw [HE1.out, show (d.toNat : Int) - 96 = (d.toNat : Int) - 97 + 1 by omega]
        exact this
      · have e1 : endSt r = 0 := by have := endSt_range r; omega
        have e2 : endCut r = r := by unfold endCut; rw [if_neg hpos]
        have hdec : decide (0 < endSt r) = false := decide_eq_false hpos
        have HE1 := Lib.hid e1
        have HE2 := Lib.hid e2
        have hneg : endSt r ≤ 0 := by omega
        clear e1 e2 hpos hdec
        go_wp2_with fail
        go_meet
        exact ⟨by rw [HE2.out], by rw [HE1.out]; exact P, B, hb⟩
    case rest =>
      clear P B hb
      obtain ⟨rfl, P, B, hb⟩ := hcut
      generalize hec : endCut r = rc at *
      have HEC := Lib.hid hec; clear hec
      go_wp2_with fail
      by_cases hv : ∃ v, Lib.atoiAll rc = .ok v
      · obtain ⟨v, hv⟩ := hv
        refine (atoi_ok ⟨rc.toArray⟩ v _ (by rw [size_mk']; omega) hv).mono ?_
        rintro e w2 ⟨rfl, hb2⟩
        have HN := Lib.hid (numL_ok hv); clear hv
        (replace hb := hb.trans (hb2.mono hb.size)); replace P := P.up hb2; replace B := B.up hb2; clear hb2; (try clear P0); (try clear P1); (try clear P2); (try clear Pf0); (try clear Pf1); (try clear Pf2); (try clear Plt); (try clear B0); (try clear B1); (try clear B2); (try clear Bf0); (try clear Bf1); (try clear Bf2); (try clear Blt)
        have P0 := P.cell 0 _ rfl; have Pf0 := P.frz 0; have P1 := P.cell 1 _ rfl; have Pf1 := P.frz 1; have P2 := P.cell 2 _ rfl; have Pf2 := P.frz 2; have Plt := P.lt
        have B0 := B.cell 0 _ rfl; have Bf0 := B.frz 0; have B1 := B.cell 1 _ rfl; have Bf1 := B.frz 1; have B2 := B.cell 2 _ rfl; have Bf2 := B.frz 2; have Blt := B.lt
        go_wp2_with fail
        refine (ltext_any ⟨sideC c, v, endSt r⟩ _ (hE.step (hb.setCell (by simp) _))).mono ?_
        rintro e w3 ⟨rfl, hb3⟩
        have Q := P.set (i := 1) (by simp) (.int .i64 v)
        have C := B.far (p := ⟨w.heap.size + 1, 1, none⟩) (by simp) (.int .i64 v)
        replace hb := hb.setCell (p := ⟨w.heap.size + 1, 1, none⟩) (by simp) (.int .i64 v)
        clear P B P0 P1 P2 Pf0 Pf1 Pf2 Plt B0 B1 B2 Bf0 Bf1 Bf2 Blt
        (replace hb := hb.trans (hb3.mono hb.size)); replace Q := Q.up hb3; replace C := C.up hb3; clear hb3; (try clear Q0); (try clear Q1); (try clear Q2); (try clear Qf0); (try clear Qf1); (try clear Qf2); (try clear Qlt); (try clear C0); (try clear C1); (try clear C2); (try clear Cf0); (try clear Cf1); (try clear Cf2); (try clear Clt)
        simp only [List.set_cons_succ, List.set_cons_zero] at Q
        have hp := HP.out
        rw [HN.out] at hp
        have C0 := C.cell 0 _ rfl; have Cf0 := C.frz 0; have C1 := C.cell 1 _ rfl; have Cf1 := C.frz 1; have C2 := C.cell 2 _ rfl; have Cf2 := C.frz 2; have Clt := C.lt
        have Q0 := Q.cell 0 _ rfl; have Qf0 := Q.frz 0; have Q1 := Q.cell 1 _ rfl; have Qf1 := Q.frz 1; have Q2 := Q.cell 2 _ rfl; have Qf2 := Q.frz 2; have Qlt := Q.lt
        cases ht : (labS ⟨sideC c, v, endSt r⟩ == c :: r)
        · have HV : Hid (parseLabV (c :: r) = .tuple #[.agg #[.int .i64 0, .int .i64 0, .int .i64 0], .int .i64 3]) := by
            show parseLabV (c :: r) = _
            exact parseLabV_none (by rw [hp, ht]; rfl)
          clear hp
          go_wp2_with fail
          refine bodyPost_ret (v := parseLabV (c :: r)) (by rw [HV.out]; simp [results, Tryz.results71, go_sem, (C.all3 (.int .i64 0) (.int .i64 0) (.int .i64 0)).cell 0 _ rfl, (C.all3 (.int .i64 0) (.int .i64 0) (.int .i64 0)).cell 1 _ rfl, (C.all3 (.int .i64 0) (.int .i64 0) (.int .i64 0)).cell 2 _ rfl]) rfl ⟨rfl, ?_⟩
          exact ((hb.setCell (by simp) _).setCell (by simp) _).setCell (by simp) _
        · have HV : Hid (parseLabV (c :: r) = .tuple #[.agg #[.int .i64 (sideC c), .int .i64 v, .int .i64 (endSt r)], .int .i64 0]) := by
            show parseLabV (c :: r) = _
            exact parseLabV_some (x := ⟨sideC c, v, endSt r⟩) (by rw [hp, ht]; rfl)
          clear hp
          go_wp2_with fail
          refine bodyPost_ret (v := parseLabV (c :: r)) (by rw [HV.out]; simp [results, Tryz.results71, go_sem, (C.all3 (.int .i64 (sideC c)) (.int .i64 v) (.int .i64 (endSt r))).cell 0 _ rfl, (C.all3 (.int .i64 (sideC c)) (.int .i64 v) (.int .i64 (endSt r))).cell 1 _ rfl, (C.all3 (.int .i64 (sideC c)) (.int .i64 v) (.int .i64 (endSt r))).cell 2 _ rfl]) rfl ⟨rfl, ?_⟩
          exact ((hb.setCell (by simp) _).setCell (by simp) _).setCell (by simp) _
      · have hv' : ∀ v, Lib.atoiAll rc ≠ .ok v := fun v h => hv ⟨v, h⟩
        have hn0 : numL rc = 0 := by
          unfold numL
          cases h : Lib.atoiAll rc
          · exact absurd h (hv' _)
          · rfl
          · rfl
        have HV : Hid (parseLabV (c :: r) = .tuple #[.agg #[.int .i64 0, .int .i64 0, .int .i64 0], .int .i64 3]) := by
          show parseLabV (c :: r) = _
          refine parseLabV_none ?_
          rw [HP.out, hn0]
          have : labS ⟨sideC c, 0, endSt r⟩ = [] := by
            unfold labS
            rw [if_neg]
            rw [okLab_iff]
            rintro ⟨_, ⟨h, _⟩, _⟩
            exact absurd (show (1 : Int) ≤ 0 from h) (by decide)
          rw [this]; rfl
        clear hn0
        have HV' := Lib.hid hv'; clear hv' hv
        refine (atoi_err ⟨rc.toArray⟩ _ (by rw [size_mk']; omega) HV'.out (hE.step hb)).mono ?_
        rintro e w2 ⟨⟨k, te, pv, rfl⟩, hb2⟩
        (replace hb := hb.trans (hb2.mono hb.size)); replace P := P.up hb2; replace B := B.up hb2; clear hb2; (try clear P0); (try clear P1); (try clear P2); (try clear Pf0); (try clear Pf1); (try clear Pf2); (try clear Plt); (try clear B0); (try clear B1); (try clear B2); (try clear Bf0); (try clear Bf1); (try clear Bf2); (try clear Blt)
        have P0 := P.cell 0 _ rfl; have Pf0 := P.frz 0; have P1 := P.cell 1 _ rfl; have Pf1 := P.frz 1; have P2 := P.cell 2 _ rfl; have Pf2 := P.frz 2; have Plt := P.lt
        have B0 := B.cell 0 _ rfl; have Bf0 := B.frz 0; have B1 := B.cell 1 _ rfl; have Bf1 := B.frz 1; have B2 := B.cell 2 _ rfl; have Bf2 := B.frz 2; have Blt := B.lt
        go_wp2_with fail
        have C := B.far (p := ⟨w.heap.size + 1, 1, none⟩) (by simp) (.int .i64 k)
        replace hb := hb.setCell (p := ⟨w.heap.size + 1, 1, none⟩) (by simp) (.int .i64 k)
        refine bodyPost_ret (v := parseLabV (c :: r)) (by rw [HV.out]; simp [results, Tryz.results71, go_sem, (C.all3 (.int .i64 0) (.int .i64 0) (.int .i64 0)).cell 0 _ rfl, (C.all3 (.int .i64 0) (.int .i64 0) (.int .i64 0)).cell 1 _ rfl, (C.all3 (.int .i64 0) (.int .i64 0) (.int .i64 0)).cell 2 _ rfl]) rfl ⟨rfl, ?_⟩
        exact ((hb.setCell (by simp) _).setCell (by simp) _).setCell (by simp) _
end Go.Proofs.YtnaoagkelbjflaaGreatDoor
