/- CatalogNexts: the law's walk (chapter 47). -/
import Derived.Test.YtfanjghfilkhmaaGreatDoorIa
set_option linter.unusedSimpArgs false
set_option linter.unusedVariables false
namespace Go.Proofs.YtfanjghfilkhmaaGreatDoor
open Go.RowKit

theorem nextE_lens (e : Ed) (l : List Int) : (nextE 1 6 2 e l).1.ents.length ≤ 64 ∧ (nextE 1 6 2 e l).1.ret.length ≤ 64 := by
  by_cases h : NextOk e l
  · rw [nextE_ok h]; exact valid_lens (next_valid h)
  · rw [nextE_zero h]; exact ⟨by decide, by decide⟩
theorem keep222 {w0 w w1 : World} {p q s : Nat} {a0 a1 b0 b1 d0 d1 : Value} (hp : p < w0.heap.size) (hq : q < w0.heap.size) (hs : s < w0.heap.size)
    (H : w.cell? ⟨p, 0, none⟩ = some a0 ∧ w.cell? ⟨p, 1, none⟩ = some a1 ∧ w.cell? ⟨q, 0, none⟩ = some b0 ∧ w.cell? ⟨q, 1, none⟩ = some b1 ∧ w.cell? ⟨s, 0, none⟩ = some d0 ∧ w.cell? ⟨s, 1, none⟩ = some d1 ∧ Below w0.heap.size w0 w) (hb : Below w.heap.size w w1) :
    w1.cell? ⟨p, 0, none⟩ = some a0 ∧ w1.cell? ⟨p, 1, none⟩ = some a1 ∧ w1.cell? ⟨q, 0, none⟩ = some b0 ∧ w1.cell? ⟨q, 1, none⟩ = some b1 ∧ w1.cell? ⟨s, 0, none⟩ = some d0 ∧ w1.cell? ⟨s, 1, none⟩ = some d1 ∧ Below w0.heap.size w0 w1 := by
  obtain ⟨x0, x1, x2, x3, x4, x5, xb⟩ := H
  have hz := xb.size
  have g : ∀ b o v, b < w0.heap.size → w.cell? ⟨b, o, none⟩ = some v → w1.cell? ⟨b, o, none⟩ = some v := fun b o v hlt h => (hb.cell (p := ⟨b, o, none⟩) (by show b < _; omega)).trans h
  exact ⟨g _ _ _ hp x0, g _ _ _ hp x1, g _ _ _ hq x2, g _ _ _ hq x3, g _ _ _ hs x4, g _ _ _ hs x5, xb.trans (hb.mono hz)⟩
theorem last7 {a b c d e f z : Prop} (h : a ∧ b ∧ c ∧ d ∧ e ∧ f ∧ z) : z := h.2.2.2.2.2.2
set_option maxRecDepth 100000 in
set_option maxHeartbeats 8000000 in
theorem nexts_law (A : Option Addr) (n c : Nat) (A' : Option Addr) (n' c' : Nat) (e : Ed) (K : Option Addr) (nk ck : Nat) (l : List Int) (w : World) (hE : Env w) (hS : EdS w A n A' n' e) (hK : Sl w 0 w.heap.size 1 encI K nk l) :
    Calls Tryz.prog 3 #[.agg #[.slice A n c, .slice A' n' c'], .slice K nk ck] w fun r w' => r = .returned (.bool true) ∧ Below w.heap.size w w' := by
  have HEN : Hid (∀ W, Below w.heap.size w W → Env W) := fun W hW => hE.step hW
  have HU : Hid (∀ W, Below w.heap.size w W → EdS W A n A' n' e) := fun W hW => hS.up hW
  have HKU : Hid (∀ W, Below w.heap.size w W → Sl W 0 W.heap.size 1 encI K nk l) := fun W hW => hK.up hW (Nat.le_refl _) (Nat.le_refl _)
  have HLN : Hid ((nextE 1 6 2 e l).1.ents.length ≤ 64 ∧ (nextE 1 6 2 e l).1.ret.length ≤ 64) := nextE_lens e l
  clear hE hS hK
  go_enter Tryz.func3, Tryz.ntmps3
  go_wp2_with fail
  refine (awake_any _ (HEN.out _ (by (repeat (first | exact Below.refl _ _ | assumption | refine Below.alloc ?_ (by first | omega | (simp only [World.size_alloc]; omega) | (simp; done) | (simp; omega)) _ | refine Below.setCell ?_ (by first | omega | (simp only [World.size_alloc]; omega) | (simp; done) | (simp; omega)) _ | refine Below.drew ?_ | refine below_drewN ?_ _))))).mono ?_; rintro r w1 ⟨rfl, hb1⟩
  obtain ⟨_, hb, Z⟩ := step1 (Below.refl _ w) hb1
  clear hb1
  have Z0 := Z.cell 0 _ rfl; have Z1 := Z.cell 1 _ rfl; have Zlt := Z.lt
  go_wp2_with fail
  refine (few_any A n c A' n' c' _).mono ?_; rintro r w2 ⟨rfl, hb2⟩
  (replace hb := hb.trans (hb2.mono hb.size)); replace Z := Z.up hb2; clear hb2; (try clear Z0); (try clear Z1); (try clear Zlt)
  cases h1 : (decide (n ≤ 100) && decide (n' ≤ 100))
  · clear h1
    go_wp2_with fail
    refine (awake_any _ (HEN.out _ hb)).mono ?_; rintro r w3 ⟨rfl, hb3⟩
    (replace hb := hb.trans (hb3.mono hb.size)); clear hb3
    go_wp2_with fail
    go_ret
    exact ⟨rfl, hb⟩
  by_cases hk100 : 100 < nk
  · clear h1
    go_wp2_with fail
    refine (awake_any _ (HEN.out _ hb)).mono ?_; rintro r w3 ⟨rfl, hb3⟩
    (replace hb := hb.trans (hb3.mono hb.size)); clear hb3
    go_wp2_with fail
    go_ret
    exact ⟨rfl, hb⟩
  rw [Bool.and_eq_true, decide_eq_true_iff, decide_eq_true_iff] at h1
  have hn : n ≤ 1000000 := by omega
  have hn' : n' ≤ 1000000 := by omega
  have hnk : nk ≤ 1000000 := by omega
  clear h1
  have Z0 := Z.cell 0 _ rfl; have Z1 := Z.cell 1 _ rfl; have Zlt := Z.lt
  go_wp2_with fail
  refine (pnext_any A n c A' n' c' e K nk ck l _ hn hn' hnk (HU.out _ hb) (HKU.out _ hb)).mono ?_
  rintro r w3 ⟨⟨P, p, q, P', p', q', rfl, hP⟩, hb3⟩
  (replace hb := hb.trans (hb3.mono hb.size)); replace Z := Z.up hb3; clear hb3; (try clear Z0); (try clear Z1); (try clear Zlt)
  generalize hx : nextE 1 6 2 e l = x at *
  obtain ⟨X, cd⟩ := x
  have HX := Lib.hid hx; clear hx
  simp only at hP HLN
  have hp1 : p ≤ 1000000 := by have := hP.ents.len; have := HLN.out.1; omega
  have hp2 : p' ≤ 1000000 := by have := hP.ret.len; have := HLN.out.2; omega
  have Z0 := Z.cell 0 _ rfl; have Z1 := Z.cell 1 _ rfl; have Zlt := Z.lt
  go_wp2_with fail
  refine (rnext_any A n c A' n' c' e K nk ck l _ hn hn' hnk (HU.out _ (hb.alloc hb.size _)) (HKU.out _ (hb.alloc hb.size _))).mono ?_
  rw [HX.out]
  rintro r w4 ⟨⟨R, s, t, R', s', t', rfl, hR⟩, hb4⟩
  simp only at hR
  obtain ⟨h34, hb', Y⟩ := step1 hb hb4
  replace Z := Z.up h34
  replace hP := hP.up h34
  clear hb hb4 h34 Z0 Z1 Zlt
  have hb := hb'; clear hb'
  have hs1 : s ≤ 1000000 := by have := hR.ents.len; have := HLN.out.1; omega
  have hs2 : s' ≤ 1000000 := by have := hR.ret.len; have := HLN.out.2; omega
  generalize w3.heap.size = b3 at *
  go_wp2_with fail
  have hbW : Below w4.heap.size w4 (w4.alloc (.cells #[.slice R s t, .slice R' s' t'] 25)) := one_alloc _ _
  have V := Bx.new w4 [.slice R s t, .slice R' s' t'] 25
  generalize w4.alloc (.cells #[.slice R s t, .slice R' s' t'] 25) = W5 at *
  (replace hb := hb.trans (hbW.mono hb.size)); replace Z := Z.up hbW; replace Y := Y.up hbW; replace hP := hP.up hbW; replace hR := hR.up hbW; clear hbW; (try clear Z0); (try clear Z1); (try clear Zlt); (try clear Y0); (try clear Y1); (try clear Ylt)
  generalize w4.heap.size = b4 at *
  have HED : Hid (∀ W, Below W5.heap.size W5 W → Calls Tryz.prog 15 #[.agg #[.slice P p q, .slice P' p' q'], .agg #[.slice R s t, .slice R' s' t']] W fun r w' => r = .returned (.bool true) ∧ Below W.heap.size W w') := fun W hW => by
    have h := editions_any P p q P' p' q' X R s t R' s' t' X W hp1 hp2 hs1 hs2 (hP.up hW) (hR.up hW)
    rwa [decide_eq_true (rfl : X = X)] at h
  have HVA : Hid (∀ W, Below W5.heap.size W5 W → Calls Tryz.prog 16 #[.agg #[.slice A n c, .slice A' n' c']] W fun r w' => r = .returned (.bool (decide (validE e))) ∧ Below W.heap.size W w') := fun W hW => valid_any A n c A' n' c' e W hn hn' (HU.out _ (hb.trans (hW.mono hb.size)))
  have HVR : Hid (∀ W, Below W5.heap.size W5 W → Calls Tryz.prog 17 #[.agg #[.slice A n c, .slice A' n' c']] W fun r w' => r = .returned (.bool (decide (validE e))) ∧ Below W.heap.size W w') := fun W hW => rvalid_any A n c A' n' c' e W hn hn' (HU.out _ (hb.trans (hW.mono hb.size)))
  generalize decide (validE e) = bv at *
  have Z0 := Z.cell 0 _ rfl; have Z1 := Z.cell 1 _ rfl; have Zlt := Z.lt
  have Y0 := Y.cell 0 _ rfl; have Y1 := Y.cell 1 _ rfl; have Ylt := Y.lt
  have V0 := V.cell 0 _ rfl; have V1 := V.cell 1 _ rfl; have Vlt := V.lt
  clear hP hR
  go_region_held3 (fun U => U.cell? ⟨w.heap.size, 0, none⟩ = some (.slice A n c) ∧ U.cell? ⟨w.heap.size, 1, none⟩ = some (.slice A' n' c') ∧ U.cell? ⟨b3, 0, none⟩ = some (.slice P p q) ∧ U.cell? ⟨b3, 1, none⟩ = some (.slice P' p' q') ∧ U.cell? ⟨b4, 0, none⟩ = some (.slice R s t) ∧ U.cell? ⟨b4, 1, none⟩ = some (.slice R' s' t') ∧ Below W5.heap.size W5 U)
    (first | exact ⟨Z0, Z1, Y0, Y1, V0, V1, Below.drew (Below.refl _ _)⟩ | exact keep222 Zlt Ylt Vlt (by assumption) (by assumption) | go_keep)
    (first
      | (go_at_call 15; ((with_reducible refine (HED.out _ (last7 (by assumption))).mono ?_); rintro r w6 ⟨rfl, hb6⟩))
      | (go_at_call 16; ((with_reducible refine (HVA.out _ (last7 (by assumption))).mono ?_); rintro r w6 ⟨rfl, hb6⟩))
      | (go_at_call 17; ((with_reducible refine (HVR.out _ (last7 (by assumption))).mono ?_); rintro r w6 ⟨rfl, hb6⟩)))
  rename_i hH
  have hb5 := last7 hH
  clear hH
  go_wp2_with fail
  go_ret
  exact ⟨rfl, hb.trans (hb5.mono hb.size)⟩
end Go.Proofs.YtfanjghfilkhmaaGreatDoor
