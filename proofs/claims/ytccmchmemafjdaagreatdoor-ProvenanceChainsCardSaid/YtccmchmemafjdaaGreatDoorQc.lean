/- Chapter 46: same, few; ProvenanceTexts: the law's walk. -/
import Derived.Test.YtccmchmemafjdaaGreatDoorQb
import Derived.Test.YtccmchmemafjdaaGreatDoorOl
import Derived.Deep.RegionHeld3
set_option linter.unusedSimpArgs false
set_option linter.unusedVariables false
namespace Go.Proofs.YtccmchmemafjdaaGreatDoor
open Go.RowKit

set_option maxHeartbeats 1000000 in
theorem same_any (i : Int) (A : Option Addr) (n c : Nat) (xs : List Sal) (i' : Int) (A' : Option Addr) (n' c' : Nat) (ys : List Sal) (w : World) (hn : n ≤ 1000000) (hn' : n' ≤ 1000000) (hS : SaS w A n xs) (hS' : SaS w A' n' ys) :
    Calls Tryz.prog 17 #[.agg #[.int .i64 i, .slice A n c], .agg #[.int .i64 i', .slice A' n' c']] w fun e w' => e = .returned (.bool (decide (i = i') && decide (xs = ys))) ∧ Below w.heap.size w w' := by
  have hbW : Below w.heap.size w ((w.alloc (.cells #[.int .i64 i, .slice A n c] 24)).alloc (.cells #[.int .i64 i', .slice A' n' c'] 24)) := by (repeat (first | exact Below.refl _ _ | assumption | refine Below.alloc ?_ (by first | omega | (simp only [World.size_alloc]; omega) | (simp; done) | (simp; omega)) _ | refine Below.setCell ?_ (by first | omega | (simp only [World.size_alloc]; omega) | (simp; done) | (simp; omega)) _ | refine Below.drew ?_ | refine below_drewN ?_ _))
  have HC := Lib.hid (sales_any A n c xs A' n' c' ys _ hn hn' (hS.up hbW) (hS'.up hbW))
  clear hS hS'
  by_cases h : i = i'
  · subst h
    go_enter Tryz.func17, Tryz.ntmps17
    go_wp2_with fail
    go_fit HC.out
    rintro e w2 ⟨rfl, hb2⟩
    go_wp2_with fail
    go_ret
    exact ⟨by simp, below_keep' hbW hb2⟩
  · have h1 : (i == i') = false := by simpa using h
    have h2 : Hid (decide (i = i') = false) := decide_eq_false h
    clear h
    go_enter Tryz.func17, Tryz.ntmps17
    go_wp2_with fail
    go_ret
    exact ⟨by rw [h2.out]; rfl, hbW⟩
set_option maxHeartbeats 1000000 in
theorem few_any (A : Option Addr) (n c : Nat) (w : World) :
    Calls Tryz.prog 18 #[.slice A n c] w fun e w' => e = .returned (.bool (decide (n ≤ 12 ∨ n = 65))) ∧ w' = w := by
  go_enter Tryz.func18, Tryz.ntmps18
  by_cases h1 : n ≤ 12
  · have h2 : Hid (decide (n ≤ 12 ∨ n = 65) = true) := decide_eq_true (.inl h1)
    clear h2
    go_wp2_with fail
    go_ret
    exact ⟨rfl, rfl⟩
  · by_cases h65 : n = 65
    · subst h65
      go_wp2_with fail
      go_ret
      exact ⟨rfl, rfl⟩
    · have h2 : Hid (decide (n ≤ 12 ∨ n = 65) = false) := decide_eq_false (by omega)
      have h3 : ((n : Int) == 65) = false := by simp; omega
      have h4 : decide ((n : Int) ≤ 12) = false := decide_eq_false (by omega)
      go_wp2_with fail
      go_ret
      exact ⟨by rw [h2.out]; first | rfl | simp [h4], rfl⟩
theorem res_cases (s : List UInt8) : (∃ x, IsTextL s x ∧ resL 3 s = (x, 0)) ∨ ((∀ x, ¬ IsTextL s x) ∧ resL 3 s = (lstZero, 3)) := by
  by_cases h : ∃ x, IsTextL s x
  · obtain ⟨x, hx⟩ := h
    exact .inl ⟨x, hx, resL_text hx⟩
  · have h2 : ∀ x, ¬ IsTextL s x := fun x hx => h ⟨x, hx⟩
    exact .inr ⟨h2, resL_none h2⟩
theorem res_len (s : List UInt8) : (resL 3 s).1.sales.length ≤ 8 := by
  rcases res_cases s with ⟨x, hx, h⟩ | ⟨_, h⟩
  · rw [h]; exact hx.1.2.1
  · rw [h]; decide
theorem textL_bad {x : Lst} (h : ¬ validL x) : textL x = [] := by unfold textL; rw [if_neg h]
theorem noText_nil (x : Lst) : ¬ IsTextL [] x := fun ⟨h1, h2⟩ => by
  rw [textL_ok h1] at h2
  simp at h2
theorem keep6P {w0 w1 : World} {p1 p2 p3 p4 p5 p6 : Addr} {v1 v2 v3 v4 v5 v6 : Value} (h1 : w0.cell? p1 = some v1) (h2 : w0.cell? p2 = some v2) (h3 : w0.cell? p3 = some v3) (h4 : w0.cell? p4 = some v4) (h5 : w0.cell? p5 = some v5) (h6 : w0.cell? p6 = some v6)
    (l1 : p1.block < w0.heap.size) (l2 : p2.block < w0.heap.size) (l3 : p3.block < w0.heap.size) (l4 : p4.block < w0.heap.size) (l5 : p5.block < w0.heap.size) (l6 : p6.block < w0.heap.size) (hb : Below w0.heap.size w0 w1) :
    w1.cell? p1 = some v1 ∧ w1.cell? p2 = some v2 ∧ w1.cell? p3 = some v3 ∧ w1.cell? p4 = some v4 ∧ w1.cell? p5 = some v5 ∧ w1.cell? p6 = some v6 ∧ Below w0.heap.size w0 w1 :=
  ⟨(hb.cell l1).trans h1, (hb.cell l2).trans h2, (hb.cell l3).trans h3, (hb.cell l4).trans h4, (hb.cell l5).trans h5, (hb.cell l6).trans h6, hb⟩
theorem last7P {a1 a2 a3 a4 a5 a6 z : Prop} (h : a1 ∧ a2 ∧ a3 ∧ a4 ∧ a5 ∧ a6 ∧ z) : z := h.2.2.2.2.2.2
set_option maxRecDepth 100000 in
set_option maxHeartbeats 8000000 in
theorem texts_law (id : Int) (A : Option Addr) (n c : Nat) (xs : List Sal) (s : List UInt8) (w : World) (hE : Env w) (hn : n ≤ maxLen) (hS : SaS w A n xs) (hs : s.length ≤ maxLen) :
    Calls Tryz.prog 3 #[.agg #[.int .i64 id, .slice A n c], .string ⟨s.toArray⟩] w fun r w' => r = .returned (.bool true) ∧ Below w.heap.size w w' := by
  have HEN : Hid (∀ W, Below w.heap.size w W → Env W) := fun W hW => hE.step hW
  have HU : Hid (∀ W, Below w.heap.size w W → SaS W A n xs) := fun W hW => hS.up hW
  clear hE hS
  have HN := Lib.hid hn
  unfold maxLen at hs hn
  go_enter Tryz.func3, Tryz.ntmps3
  go_wp2_with fail
  refine (awake_any _ (HEN.out _ (by (repeat (first | exact Below.refl _ _ | assumption | refine Below.alloc ?_ (by first | omega | (simp only [World.size_alloc]; omega) | (simp; done) | (simp; omega)) _ | refine Below.setCell ?_ (by first | omega | (simp only [World.size_alloc]; omega) | (simp; done) | (simp; omega)) _ | refine Below.drew ?_ | refine below_drewN ?_ _))))).mono ?_; rintro r w1 ⟨rfl, hb1⟩
  obtain ⟨_, hb, Z⟩ := step1 (Below.refl _ w) hb1
  clear hb1
  have Z0 := Z.cell 0 _ rfl; have Z1 := Z.cell 1 _ rfl; have Zlt := Z.lt
  by_cases h20 : 20 < n
  · go_wp2_with fail
    refine (awake_any _ (HEN.out _ hb)).mono ?_; rintro r w3 ⟨rfl, hb3⟩
    (replace hb := hb.trans (hb3.mono hb.size)); clear hb3
    go_wp2_with fail
    go_ret
    exact ⟨rfl, hb⟩
  by_cases h400 : 400 < s.length
  · go_wp2_with fail
    refine (awake_any _ (HEN.out _ hb)).mono ?_; rintro r w3 ⟨rfl, hb3⟩
    (replace hb := hb.trans (hb3.mono hb.size)); clear hb3
    go_wp2_with fail
    go_ret
    exact ⟨rfl, hb⟩
  have hn8 : n ≤ 1000000 := by omega
  have hs8 : s.length ≤ 1000000 := by omega
  go_wp2_with fail
  refine (ptext_any id A n c xs _ (HEN.out _ hb) HN.out (HU.out _ hb)).mono ?_; rintro r w2 ⟨rfl, hb2⟩
  (replace hb := hb.trans (hb2.mono hb.size)); replace Z := Z.up hb2; clear hb2; (try clear Z0); (try clear Z1); (try clear Zlt)
  have htl := textL_len ⟨id, xs⟩
  obtain ⟨t, ht⟩ : ∃ t, t = textL ⟨id, xs⟩ := ⟨_, rfl⟩
  rw [← ht] at htl ⊢
  have HT := Lib.hid ht; clear ht
  go_wp2_with fail
  refine (pparse_any t _ (by omega) (HEN.out _ hb)).mono ?_
  rintro r w3 ⟨hP, hb3⟩
  obtain ⟨Y, cY, hY⟩ : ∃ Y cY, resL 3 t = (Y, cY) := ⟨_, _, rfl⟩
  have hYl := res_len t
  rw [hY] at hP hYl
  obtain ⟨Ay, ny, cy, rfl, hny, hSy⟩ := hP
  have HY := Lib.hid hY; clear hY
  dsimp only at hSy hYl ⊢
  have hny8 : ny ≤ 1000000 := by have := Sl.len hSy; omega
  (replace hb := hb.trans (hb3.mono hb.size)); replace Z := Z.up hb3; clear hb3; (try clear Z0); (try clear Z1); (try clear Zlt)
  have V := Bx.new w3 [.int .i64 Y.id, .slice Ay ny cy] 24
  have hbW : Below w3.heap.size w3 (w3.alloc (.cells #[.int .i64 Y.id, .slice Ay ny cy] 24)) := one_alloc _ _
  go_wp2_with fail
  generalize w3.alloc (.cells #[.int .i64 Y.id, .slice Ay ny cy] 24) = W4 at *
  (replace hb := hb.trans (hbW.mono hb.size)); replace Z := Z.up hbW; replace hSy := hSy.up hbW; clear hbW; (try clear Z0); (try clear Z1); (try clear Zlt)
  generalize w3.heap.size = b4 at *
  refine (pparse_any s _ hs8 (HEN.out _ hb)).mono ?_
  rintro r w5 ⟨hP, hb5⟩
  obtain ⟨X, cX, hX⟩ : ∃ X cX, resL 3 s = (X, cX) := ⟨_, _, rfl⟩
  have hXl := res_len s
  have HR := Lib.hid (fun U => rparse_any s U hs8)
  rw [hX] at hP hXl HR
  obtain ⟨Ax, nx, cx, rfl, hnx, hSx⟩ := hP
  clear hX
  dsimp only at hSx hXl ⊢
  have hnx8 : nx ≤ 1000000 := by have := Sl.len hSx; omega
  (replace hb := hb.trans (hb5.mono hb.size)); replace Z := Z.up hb5; replace V := V.up hb5; replace hSy := hSy.up hb5; clear hb5; (try clear Z0); (try clear Z1); (try clear Zlt); (try clear V0); (try clear V1); (try clear Vlt)
  have V2 := Bx.new w5 [.int .i64 X.id, .slice Ax nx cx] 24
  have hbW2 : Below w5.heap.size w5 (w5.alloc (.cells #[.int .i64 X.id, .slice Ax nx cx] 24)) := one_alloc _ _
  go_wp2_with fail
  generalize w5.alloc (.cells #[.int .i64 X.id, .slice Ax nx cx] 24) = W6 at *
  (replace hb := hb.trans (hbW2.mono hb.size)); replace Z := Z.up hbW2; replace V := V.up hbW2; replace hSy := hSy.up hbW2; replace hSx := hSx.up hbW2; clear hbW2; (try clear Z0); (try clear Z1); (try clear Zlt); (try clear V0); (try clear V1); (try clear Vlt)
  generalize w5.heap.size = b6 at *
  refine (HR.out W6).mono ?_
  rintro r w7 ⟨⟨Aw, nw, cw, rfl, hnw, hSw⟩, hb7⟩
  dsimp only at hSw ⊢
  have hnw8 : nw ≤ 1000000 := by have := Sl.len hSw; omega
  (replace hb := hb.trans (hb7.mono hb.size)); replace Z := Z.up hb7; replace V := V.up hb7; replace V2 := V2.up hb7; replace hSy := hSy.up hb7; replace hSx := hSx.up hb7; clear hb7; (try clear Z0); (try clear Z1); (try clear Zlt); (try clear V0); (try clear V1); (try clear Vlt); (try clear V20); (try clear V21); (try clear V2lt)
  have V3 := Bx.new w7 [.int .i64 X.id, .slice Aw nw cw] 24
  have hbW3 : Below w7.heap.size w7 (w7.alloc (.cells #[.int .i64 X.id, .slice Aw nw cw] 24)) := one_alloc _ _
  clear HR
  have HRT : Hid (∀ W, Below w.heap.size w W → Calls Tryz.prog 14 #[.agg #[.int .i64 id, .slice A n c]] W fun r w' => r = .returned (.string ⟨t.toArray⟩) ∧ Below W.heap.size W w') := fun W hW => by
    rw [HT.out]; exact rtext_any id A n c xs W HN.out (HU.out _ hW)
  have HPV : Hid (∀ W, Below w.heap.size w W → Calls Tryz.prog 15 #[.agg #[.int .i64 id, .slice A n c]] W fun r w' => r = .returned (.bool (validB id xs)) ∧ Below W.heap.size W w') := fun W hW => pvalid_any id A n c xs W HN.out (HU.out _ hW)
  have HRV : Hid (∀ W, Below w.heap.size w W → Calls Tryz.prog 16 #[.agg #[.int .i64 id, .slice A n c]] W fun r w' => r = .returned (.bool (validB id xs)) ∧ Below W.heap.size W w') := fun W hW => rvalid_any id A n c xs W HN.out (HU.out _ hW)
  have HV0 : Hid (validB id xs = true → IsTextL t ⟨id, xs⟩) := fun h => ⟨validB_of h, HT.out.symm⟩
  have HV1 : Hid (validB id xs = false → t = []) := fun h => by rw [HT.out]; exact textB_no h
  clear HT
  generalize validB id xs = vb at *
  go_wp2_with fail
  generalize w7.alloc (.cells #[.int .i64 X.id, .slice Aw nw cw] 24) = W8 at *
  (replace hb := hb.trans (hbW3.mono hb.size)); replace Z := Z.up hbW3; replace V := V.up hbW3; replace V2 := V2.up hbW3; replace hSy := hSy.up hbW3; replace hSx := hSx.up hbW3; replace hSw := hSw.up hbW3; clear hbW3; (try clear Z0); (try clear Z1); (try clear Zlt); (try clear V0); (try clear V1); (try clear Vlt); (try clear V20); (try clear V21); (try clear V2lt)
  generalize w7.heap.size = b8 at *
  have HSM : Hid (∀ U, Below W8.heap.size W8 U → Calls Tryz.prog 17 #[.agg #[.int .i64 X.id, .slice Ax nx cx], .agg #[.int .i64 X.id, .slice Aw nw cw]] U fun e w' => e = .returned (.bool true) ∧ Below U.heap.size U w') := fun U hU => by
    have := same_any X.id Ax nx cx X.sales X.id Aw nw cw X.sales U hnx8 hnw8 (hSx.up hU) (hSw.up hU)
    simpa using this
  clear hSx hSw
  have Z0 := Z.cell 0 _ rfl; have Z1 := Z.cell 1 _ rfl; have Zlt := Z.lt
  have V20 := V2.cell 0 _ rfl; have V21 := V2.cell 1 _ rfl; have V2lt := V2.lt
  have V30 := V3.cell 0 _ rfl; have V31 := V3.cell 1 _ rfl; have V3lt := V3.lt
  have hbR := hb
  go_region_held3 (fun U => U.cell? ⟨w.heap.size, 0, none⟩ = some (.int .i64 id) ∧ U.cell? ⟨w.heap.size, 1, none⟩ = some (.slice A n c) ∧ U.cell? ⟨b6, 0, none⟩ = some (.int .i64 X.id) ∧ U.cell? ⟨b6, 1, none⟩ = some (.slice Ax nx cx) ∧ U.cell? ⟨b8, 0, none⟩ = some (.int .i64 X.id) ∧ U.cell? ⟨b8, 1, none⟩ = some (.slice Aw nw cw) ∧ Below W8.heap.size W8 U)
    (first | exact keep6P Z0 Z1 V20 V21 V30 V31 Zlt Zlt V2lt V2lt V3lt V3lt (Below.drew (Below.refl _ _)) | exact keep6P Z0 Z1 V20 V21 V30 V31 Zlt Zlt V2lt V2lt V3lt V3lt (below_keep' (last7P (by assumption)) (by assumption)) | go_keep)
    (first
      | (go_at_call 14; ((with_reducible refine (HRT.out _ (below_keep' hbR (last7P (by assumption)))).mono ?_); rintro r wz ⟨rfl, hbz⟩))
      | (go_at_call 15; ((with_reducible refine (HPV.out _ (below_keep' hbR (last7P (by assumption)))).mono ?_); rintro r wz ⟨rfl, hbz⟩))
      | (go_at_call 16; ((with_reducible refine (HRV.out _ (below_keep' hbR (last7P (by assumption)))).mono ?_); rintro r wz ⟨rfl, hbz⟩))
      | (go_at_call 17; ((with_reducible refine (HSM.out _ (last7P (by assumption))).mono ?_); rintro r wz ⟨rfl, hbz⟩)))
  all_goals
    rename_i w9 hH
    have hb9 := last7P hH
    clear hH hbR HSM
    clear Z0 Z1 Zlt V20 V21 V2lt V30 V31 V3lt
    (replace hb := hb.trans (hb9.mono hb.size)); replace Z := Z.up hb9; replace V := V.up hb9; replace hSy := hSy.up hb9; clear hb9; (try clear Z0); (try clear Z1); (try clear Zlt); (try clear V0); (try clear V1); (try clear Vlt)
    have Z0 := Z.cell 0 _ rfl; have Z1 := Z.cell 1 _ rfl; have Zlt := Z.lt
    go_wp2_with fail
    refine (HRV.out _ hb).mono ?_; rintro r wa ⟨rfl, hba⟩
    (replace hb := hb.trans (hba.mono hb.size)); replace Z := Z.up hba; replace V := V.up hba; replace hSy := hSy.up hba; clear hba; (try clear Z0); (try clear Z1); (try clear Zlt); (try clear V0); (try clear V1); (try clear Vlt)
    have Z0 := Z.cell 0 _ rfl; have Z1 := Z.cell 1 _ rfl; have Zlt := Z.lt
    have V0 := V.cell 0 _ rfl; have V1 := V.cell 1 _ rfl; have Vlt := V.lt
    cases vb
    · have ht0 := HV1.out rfl
      subst ht0
      have hr : cY = 3 := by
        have := HY.out
        rw [resL_none (fun x => noText_nil x)] at this
        injection this with _ h2
        exact h2.symm
      subst hr
      go_wp2_with fail
      go_ret
      exact ⟨rfl, hb⟩
    · have hr := HY.out
      rw [resL_text (HV0.out rfl)] at hr
      injection hr with hr1 hr2
      subst hr1 hr2
      go_wp2_with fail
      refine (same_any id A n c xs id Ay ny cy xs _ hn8 hny8 (HU.out _ hb) hSy).mono ?_; rintro r wb ⟨rfl, hbb⟩
      (replace hb := hb.trans (hbb.mono hb.size)); clear hbb
      go_wp2_with fail
      go_ret
      exact ⟨by simp, hb⟩
end Go.Proofs.YtccmchmemafjdaaGreatDoor
