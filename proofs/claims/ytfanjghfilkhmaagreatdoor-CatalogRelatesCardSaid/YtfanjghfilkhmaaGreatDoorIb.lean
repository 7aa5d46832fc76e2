/- CatalogRelates: the law's walk (chapter 47). -/
import Derived.Test.YtfanjghfilkhmaaGreatDoorIa
import Derived.Test.YtfanjghfilkhmaaGreatDoorGf
set_option linter.unusedSimpArgs false
set_option linter.unusedVariables false
namespace Go.Proofs.YtfanjghfilkhmaaGreatDoor
open Go.RowKit

theorem fol_self (e : Ed) : folB e e = decide (validE e) := by
  unfold folB
  rw [Bool.eq_iff_iff, decide_eq_true_iff, decide_eq_true_iff]
  exact ⟨fun h => h.1, fun h => follows_self.2 h⟩
set_option maxRecDepth 100000 in
set_option maxHeartbeats 8000000 in
theorem relates_law (A : Option Addr) (n c : Nat) (A' : Option Addr) (n' c' : Nat) (e : Ed) (B : Option Addr) (m d : Nat) (B' : Option Addr) (m' d' : Nat) (f : Ed) (w : World) (hE : Env w) (hS : EdS w A n A' n' e) (hT : EdS w B m B' m' f) :
    Calls Tryz.prog 8 #[.agg #[.slice A n c, .slice A' n' c'], .agg #[.slice B m d, .slice B' m' d']] w fun r w' => r = .returned (.bool true) ∧ Below w.heap.size w w' := by
  have HEN : Hid (∀ W, Below w.heap.size w W → Env W) := fun W hW => hE.step hW
  have HU : Hid (∀ W, Below w.heap.size w W → EdS W A n A' n' e) := fun W hW => hS.up hW
  have HT : Hid (∀ W, Below w.heap.size w W → EdS W B m B' m' f) := fun W hW => hT.up hW
  clear hE hS hT
  go_enter Tryz.func8, Tryz.ntmps8
  go_wp2_with fail
  refine (awake_any _ (HEN.out _ (by (repeat (first | exact Below.refl _ _ | assumption | refine Below.alloc ?_ (by first | omega | (simp only [World.size_alloc]; omega) | (simp; done) | (simp; omega)) _ | refine Below.setCell ?_ (by first | omega | (simp only [World.size_alloc]; omega) | (simp; done) | (simp; omega)) _ | refine Below.drew ?_ | refine below_drewN ?_ _))))).mono ?_; rintro r w1 ⟨rfl, hb1⟩
  obtain ⟨_, hb, Z, Y⟩ := step2 (Below.refl _ w) hb1
  clear hb1
  have Z0 := Z.cell 0 _ rfl; have Z1 := Z.cell 1 _ rfl; have Zlt := Z.lt
  go_wp2_with fail
  refine (few_any A n c A' n' c' _).mono ?_; rintro r w2 ⟨rfl, hb2⟩
  (replace hb := hb.trans (hb2.mono hb.size)); replace Z := Z.up hb2; replace Y := Y.up hb2; clear hb2; (try clear Z0); (try clear Z1); (try clear Zlt); (try clear Y0); (try clear Y1); (try clear Ylt)
  cases h1 : (decide (n ≤ 100) && decide (n' ≤ 100))
  · go_wp2_with fail
    refine (awake_any _ (HEN.out _ hb)).mono ?_; rintro r w3 ⟨rfl, hb3⟩
    (replace hb := hb.trans (hb3.mono hb.size)); clear hb3
    go_wp2_with fail
    go_ret
    exact ⟨rfl, hb⟩
  have Y0 := Y.cell 0 _ rfl; have Y1 := Y.cell 1 _ rfl; have Ylt := Y.lt
  go_wp2_with fail
  refine (few_any B m d B' m' d' _).mono ?_; rintro r w3 ⟨rfl, hb3⟩
  (replace hb := hb.trans (hb3.mono hb.size)); replace Z := Z.up hb3; replace Y := Y.up hb3; clear hb3; (try clear Z0); (try clear Z1); (try clear Zlt); (try clear Y0); (try clear Y1); (try clear Ylt)
  cases h2 : (decide (m ≤ 100) && decide (m' ≤ 100))
  · clear h1 h2
    go_wp2_with fail
    refine (awake_any _ (HEN.out _ hb)).mono ?_; rintro r w4 ⟨rfl, hb4⟩
    (replace hb := hb.trans (hb4.mono hb.size)); clear hb4
    go_wp2_with fail
    go_ret
    exact ⟨rfl, hb⟩
  rw [Bool.and_eq_true, decide_eq_true_iff, decide_eq_true_iff] at h1 h2
  have hn : n ≤ 1000000 := by omega
  have hn' : n' ≤ 1000000 := by omega
  have hm : m ≤ 1000000 := by omega
  have hm' : m' ≤ 1000000 := by omega
  clear h1 h2
  have HF1 : Hid (∀ W, Below w.heap.size w W → Calls Tryz.prog 18 #[.agg #[.slice A n c, .slice A' n' c'], .agg #[.slice B m d, .slice B' m' d']] W fun r w' => r = .returned (.bool (folB e f)) ∧ Below W.heap.size W w') := fun W hW => pfollows_any A n c A' n' c' e B m d B' m' d' f W hn hn' hm hm' (HU.out _ hW) (HT.out _ hW)
  have HF2 : Hid (∀ W, Below w.heap.size w W → Calls Tryz.prog 25 #[.agg #[.slice A n c, .slice A' n' c'], .agg #[.slice B m d, .slice B' m' d']] W fun r w' => r = .returned (.bool (folB e f)) ∧ Below W.heap.size W w') := fun W hW => rfollows_any A n c A' n' c' e B m d B' m' d' f W hn hn' hm hm' (HU.out _ hW) (HT.out _ hW)
  have HF3 : Hid (∀ W, Below w.heap.size w W → Calls Tryz.prog 18 #[.agg #[.slice A n c, .slice A' n' c'], .agg #[.slice A n c, .slice A' n' c']] W fun r w' => r = .returned (.bool (decide (validE e))) ∧ Below W.heap.size W w') := fun W hW => by
    have h := pfollows_any A n c A' n' c' e A n c A' n' c' e W hn hn' hn hn' (HU.out _ hW) (HU.out _ hW)
    rwa [fol_self] at h
  have HF4 : Hid (∀ W, Below w.heap.size w W → Calls Tryz.prog 17 #[.agg #[.slice A n c, .slice A' n' c']] W fun r w' => r = .returned (.bool (decide (validE e))) ∧ Below W.heap.size W w') := fun W hW => rvalid_any A n c A' n' c' e W hn hn' (HU.out _ hW)
  generalize folB e f = bf at *
  generalize decide (validE e) = bv at *
  have hbR := hb
  have Z0 := Z.cell 0 _ rfl; have Z1 := Z.cell 1 _ rfl; have Zlt := Z.lt
  have Y0 := Y.cell 0 _ rfl; have Y1 := Y.cell 1 _ rfl; have Ylt := Y.lt
  go_wp2_with fail
  go_region_held3 (fun V => V.cell? ⟨w.heap.size, 0, none⟩ = some (.slice A n c) ∧ V.cell? ⟨w.heap.size, 1, none⟩ = some (.slice A' n' c') ∧ V.cell? ⟨w.heap.size + 1, 0, none⟩ = some (.slice B m d) ∧ V.cell? ⟨w.heap.size + 1, 1, none⟩ = some (.slice B' m' d') ∧ Below w3.heap.size w3 V)
    (first | exact ⟨Z0, Z1, Y0, Y1, Below.drew (Below.refl _ _)⟩ | exact keep22 Zlt Ylt (by assumption) (by assumption) | go_keep)
    (first
      | (go_at_call 18; ((with_reducible refine (HF1.out _ (below_keep' hbR (last5 (by assumption)))).mono ?_); rintro r w4 ⟨rfl, hb4⟩))
      | (go_at_call 18; ((with_reducible refine (HF3.out _ (below_keep' hbR (last5 (by assumption)))).mono ?_); rintro r w4 ⟨rfl, hb4⟩))
      | (go_at_call 25; ((with_reducible refine (HF2.out _ (below_keep' hbR (last5 (by assumption)))).mono ?_); rintro r w4 ⟨rfl, hb4⟩))
      | (go_at_call 17; ((with_reducible refine (HF4.out _ (below_keep' hbR (last5 (by assumption)))).mono ?_); rintro r w4 ⟨rfl, hb4⟩)))
  rename_i hH
  have hb5 := last5 hH
  clear hH
  go_wp2_with fail
  go_ret
  exact ⟨rfl, hb.trans (hb5.mono hb.size)⟩
end Go.Proofs.YtfanjghfilkhmaaGreatDoor
