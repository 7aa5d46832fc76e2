/- CatalogLooks: the law's walk (chapter 47). -/
import Derived.Test.YtfanjghfilkhmaaGreatDoorIa
set_option linter.unusedSimpArgs false
set_option linter.unusedVariables false
namespace Go.Proofs.YtfanjghfilkhmaaGreatDoor
open Go.RowKit

theorem numV_form (e : Ed) (key : Int) : ∃ a b, numV e key = .tuple #[.int .i64 a, .int .i64 b] ∧ (b = 0 → validE e ∧ findE e key = some a) := by
  by_cases hv : validE e
  · cases hf : findE e key with
    | none => exact ⟨0, 7, numV_none hv hf, fun h => absurd h (by decide)⟩
    | some m => exact ⟨m, 0, numV_yes hv hf, fun _ => ⟨hv, rfl⟩⟩
  · exact ⟨0, 1, numV_no hv key, fun h => absurd h (by decide)⟩
theorem keyV_form (e : Ed) (n : Int) : ∃ a b, keyV e n = .tuple #[.int .i64 a, .int .i64 b] := by
  by_cases hv : validE e
  · cases hf : ownE e n with
    | none => exact ⟨0, 7, keyV_none hv hf⟩
    | some m => exact ⟨m, 0, keyV_yes hv hf⟩
  · exact ⟨0, 1, keyV_no hv n⟩
theorem topV_form (e : Ed) : ∃ a b, topV e = .tuple #[.int .i64 a, .int .i64 b] ∧ (validE e → a = topE e) := by
  by_cases hv : validE e
  · exact ⟨_, _, topV_yes hv, fun _ => rfl⟩
  · exact ⟨_, _, topV_no hv, fun h => absurd h hv⟩
set_option maxRecDepth 100000 in
set_option maxHeartbeats 8000000 in
theorem looks_law (A : Option Addr) (n c : Nat) (A' : Option Addr) (n' c' : Nat) (e : Ed) (key num : Int) (w : World) (hE : Env w) (hS : EdS w A n A' n' e) :
    Calls Tryz.prog 7 #[.agg #[.slice A n c, .slice A' n' c'], .int .i64 key, .int .i64 num] w fun r w' => r = .returned (.bool true) ∧ Below w.heap.size w w' := by
  have HEN : Hid (∀ W, Below w.heap.size w W → Env W) := fun W hW => hE.step hW
  have HU : Hid (∀ W, Below w.heap.size w W → EdS W A n A' n' e) := fun W hW => hS.up hW
  clear hE hS
  go_enter Tryz.func7, Tryz.ntmps7
  go_wp2_with fail
  refine (awake_any _ (HEN.out _ (by (repeat (first | exact Below.refl _ _ | assumption | refine Below.alloc ?_ (by first | omega | (simp only [World.size_alloc]; omega) | (simp; done) | (simp; omega)) _ | refine Below.setCell ?_ (by first | omega | (simp only [World.size_alloc]; omega) | (simp; done) | (simp; omega)) _ | refine Below.drew ?_ | refine below_drewN ?_ _))))).mono ?_; rintro r w1 ⟨rfl, hb1⟩
  obtain ⟨_, hb, Z⟩ := step1 (Below.refl _ w) hb1
  clear hb1
  have Z0 := Z.cell 0 _ rfl; have Z1 := Z.cell 1 _ rfl; have Zlt := Z.lt
  go_wp2_with fail
  refine (few_any A n c A' n' c' _).mono ?_; rintro r w2 ⟨rfl, hb2⟩
  (replace hb := hb.trans (hb2.mono hb.size)); replace Z := Z.up hb2; clear hb2; (try clear Z0); (try clear Z1); (try clear Zlt)
  cases h1 : (decide (n ≤ 100) && decide (n' ≤ 100))
  · clear h1
    go_wp2_with fail
    refine (awake_any _ (HEN.out _ hb)).mono ?_; rintro r w3 ⟨rfl, hb3⟩
    (replace hb := hb.trans (hb3.mono hb.size)); clear hb3
    go_wp2_with fail
    go_ret
    exact ⟨rfl, hb⟩
  rw [Bool.and_eq_true, decide_eq_true_iff, decide_eq_true_iff] at h1
  have hn : n ≤ 1000000 := by omega
  have hn' : n' ≤ 1000000 := by omega
  clear h1
  obtain ⟨a, b, hab, hb0⟩ := numV_form e key
  obtain ⟨k1, k2, hk⟩ := keyV_form e num
  obtain ⟨t1, t2, ht, htv⟩ := topV_form e
  have HA := Lib.hid hab; clear hab
  have HK := Lib.hid hk; clear hk
  have HT := Lib.hid ht; clear ht
  have HB := Lib.hid hb0; clear hb0
  have HTV := Lib.hid htv; clear htv
  have Z0 := Z.cell 0 _ rfl; have Z1 := Z.cell 1 _ rfl; have Zlt := Z.lt
  go_wp2_with fail
  refine (number_any A n c A' n' c' e key _ hn hn' (HU.out _ hb)).mono ?_; rintro r w3 ⟨rfl, hb3⟩
  rw [HA.out]
  (replace hb := hb.trans (hb3.mono hb.size)); replace Z := Z.up hb3; clear hb3; (try clear Z0); (try clear Z1); (try clear Zlt)
  have Z0 := Z.cell 0 _ rfl; have Z1 := Z.cell 1 _ rfl; have Zlt := Z.lt
  go_wp2_with fail
  refine (rnumber_any A n c A' n' c' e key _ hn hn' (HU.out _ hb)).mono ?_; rintro r w4 ⟨rfl, hb4⟩
  rw [HA.out]
  (replace hb := hb.trans (hb4.mono hb.size)); replace Z := Z.up hb4; clear hb4; (try clear Z0); (try clear Z1); (try clear Zlt)
  have Z0 := Z.cell 0 _ rfl; have Z1 := Z.cell 1 _ rfl; have Zlt := Z.lt
  go_wp2_with fail
  refine (key_any A n c A' n' c' e num _ hn hn' (HU.out _ hb)).mono ?_; rintro r w5 ⟨rfl, hb5⟩
  rw [HK.out]
  (replace hb := hb.trans (hb5.mono hb.size)); replace Z := Z.up hb5; clear hb5; (try clear Z0); (try clear Z1); (try clear Zlt)
  have Z0 := Z.cell 0 _ rfl; have Z1 := Z.cell 1 _ rfl; have Zlt := Z.lt
  go_wp2_with fail
  refine (rkey_any A n c A' n' c' e num _ hn hn' (HU.out _ hb)).mono ?_; rintro r w6 ⟨rfl, hb6⟩
  rw [HK.out]
  (replace hb := hb.trans (hb6.mono hb.size)); replace Z := Z.up hb6; clear hb6; (try clear Z0); (try clear Z1); (try clear Zlt)
  have Z0 := Z.cell 0 _ rfl; have Z1 := Z.cell 1 _ rfl; have Zlt := Z.lt
  go_wp2_with fail
  refine (ptop_any A n c A' n' c' e _ hn hn' (HU.out _ hb)).mono ?_; rintro r w7 ⟨rfl, hb7⟩
  rw [HT.out]
  (replace hb := hb.trans (hb7.mono hb.size)); replace Z := Z.up hb7; clear hb7; (try clear Z0); (try clear Z1); (try clear Zlt)
  have Z0 := Z.cell 0 _ rfl; have Z1 := Z.cell 1 _ rfl; have Zlt := Z.lt
  go_wp2_with fail
  refine (rtop_any A n c A' n' c' e _ hn hn' (HU.out _ hb)).mono ?_; rintro r w8 ⟨rfl, hb8⟩
  rw [HT.out]
  (replace hb := hb.trans (hb8.mono hb.size)); replace Z := Z.up hb8; clear hb8; (try clear Z0); (try clear Z1); (try clear Zlt)
  have Z0 := Z.cell 0 _ rfl; have Z1 := Z.cell 1 _ rfl; have Zlt := Z.lt
  by_cases hb00 : b = 0
  · subst hb00
    obtain ⟨hv, hf⟩ := HB.out rfl
    have HKB : Hid (keyV e a = .tuple #[.int .i64 key, .int .i64 0]) := keyV_yes hv (ownE_mem (validE_nums hv) (findE_some hf))
    have hat : a ≤ t1 := by
      rw [HTV.out hv]
      exact topE_ge (List.mem_append.2 (.inl (List.mem_map_of_mem (f := Prod.snd) (findE_some hf))))
    clear hv hf
    go_wp2_with fail
    refine (key_any A n c A' n' c' e a _ hn hn' (HU.out _ hb)).mono ?_; rintro r w9 ⟨rfl, hb9⟩
    rw [HKB.out]
    (replace hb := hb.trans (hb9.mono hb.size)); clear hb9
    go_wp2_with fail
    go_ret
    exact ⟨rfl, hb⟩
  · obtain ⟨k3, k4, hk3⟩ := keyV_form e a
    have HK3 := Lib.hid hk3; clear hk3
    go_wp2_with fail
    refine (key_any A n c A' n' c' e a _ hn hn' (HU.out _ hb)).mono ?_; rintro r w9 ⟨rfl, hb9⟩
    rw [HK3.out]
    (replace hb := hb.trans (hb9.mono hb.size)); clear hb9
    have hd : (b != 0) = true := by simpa using hb00
    go_wp2_with fail
    go_ret
    exact ⟨rfl, hb⟩
end Go.Proofs.YtfanjghfilkhmaaGreatDoor
