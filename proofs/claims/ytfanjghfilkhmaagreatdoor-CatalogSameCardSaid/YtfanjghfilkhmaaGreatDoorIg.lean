/- CatalogSame: the law's walk (chapter 47). -/
import Derived.Test.YtfanjghfilkhmaaGreatDoorIa
set_option linter.unusedSimpArgs false
set_option linter.unusedVariables false
namespace Go.Proofs.YtfanjghfilkhmaaGreatDoor
open Go.RowKit

theorem next_sameE {e : Ed} (h : validE e) : nextE 1 6 2 e (keysE e) = (e, 0) := by rw [nextE_ok (next_same h).1, (next_same h).2]
set_option maxRecDepth 100000 in
set_option maxHeartbeats 8000000 in
theorem same_law (A : Option Addr) (n c : Nat) (A' : Option Addr) (n' c' : Nat) (e : Ed) (w : World) (hE : Env w) (hS : EdS w A n A' n' e) :
    Calls Tryz.prog 6 #[.agg #[.slice A n c, .slice A' n' c']] w fun r w' => r = .returned (.bool true) ∧ Below w.heap.size w w' := by
  have HL := Lib.hid hS.ents.len
  have HEN : Hid (∀ W, Below w.heap.size w W → Env W) := fun W hW => hE.step hW
  have HU : Hid (∀ W, Below w.heap.size w W → EdS W A n A' n' e) := fun W hW => hS.up hW
  clear hE hS
  obtain ⟨i0, hi, hz0, hz1, hz2⟩ := info_parts Tryz.infoI
  go_enter Tryz.func6, Tryz.ntmps6
  go_wp2_with fail
  refine (awake_any _ (HEN.out _ (by (repeat (first | exact Below.refl _ _ | assumption | refine Below.alloc ?_ (by first | omega | (simp only [World.size_alloc]; omega) | (simp; done) | (simp; omega)) _ | refine Below.setCell ?_ (by first | omega | (simp only [World.size_alloc]; omega) | (simp; done) | (simp; omega)) _ | refine Below.drew ?_ | refine below_drewN ?_ _))))).mono ?_; rintro r w1 ⟨rfl, hb1⟩
  obtain ⟨_, hb, Z⟩ := step1 (Below.refl _ w) hb1
  clear hb1
  have Z0 := Z.cell 0 _ rfl; have Z1 := Z.cell 1 _ rfl; have Zlt := Z.lt
  go_wp2_with fail
  refine (few_any A n c A' n' c' _).mono ?_; rintro r w2 ⟨rfl, hb2⟩
  (replace hb := hb.trans (hb2.mono hb.size)); replace Z := Z.up hb2; clear hb2; (try clear Z0); (try clear Z1); (try clear Zlt)
  cases h1 : (decide (n ≤ 100) && decide (n' ≤ 100))
  · clear h1
    go_wp2_with fail
    refine (awake_any _ (HEN.out _ hb)).mono ?_; rintro r w3 ⟨rfl, hb3⟩
    (replace hb := hb.trans (hb3.mono hb.size)); clear hb3
    go_wp2_with fail
    go_ret
    exact ⟨rfl, hb⟩
  rw [Bool.and_eq_true, decide_eq_true_iff, decide_eq_true_iff] at h1
  have hn100 : n ≤ 100 := h1.1
  have hn : n ≤ 1000000 := by omega
  have hn' : n' ≤ 1000000 := by omega
  clear h1
  have Z0 := Z.cell 0 _ rfl; have Z1 := Z.cell 1 _ rfl; have Zlt := Z.lt
  go_wp2_with fail
  refine (rvalid_any A n c A' n' c' e _ hn hn' (HU.out _ hb)).mono ?_; rintro r w3 ⟨rfl, hb3⟩
  (replace hb := hb.trans (hb3.mono hb.size)); replace Z := Z.up hb3; clear hb3; (try clear Z0); (try clear Z1); (try clear Zlt)
  by_cases hv : ¬ validE e
  · rw [decide_eq_false hv]
    clear hv
    go_wp2_with fail
    refine (awake_any _ (HEN.out _ hb)).mono ?_; rintro r w4 ⟨rfl, hb4⟩
    (replace hb := hb.trans (hb4.mono hb.size)); clear hb4
    go_wp2_with fail
    go_ret
    exact ⟨rfl, hb⟩
  replace hv := Classical.not_not.1 hv
  rw [decide_eq_true hv]
  have HV := Lib.hid hv; clear hv
  have hz3 := Z.lt
  go_wp2_with fail
  go_loopw [3, 4] (fun v s wr => ∃ k : Nat, k ≤ n ∧ s = .int .i64 (k : Int) ∧ wr.ownsRow w3.heap.size 3 1 v k (((keysE e).take k).flatMap encI) ∧ Bx wr w.heap.size [.slice A n c, .slice A' n' c'] ∧ Below w.heap.size w wr ∧ w3.heap.size ≤ wr.heap.size) (fun _ s _ => n - (intOf s).toNat)
  case atStart => exact ⟨0, by omega, rfl, World.ownsRow_nil _ _ _ _, Z, hb, Nat.le_refl _⟩
  case round =>
    clear hb Z
    obtain ⟨k, hk, rfl, hown, Z, hb, hz⟩ := hrel
    have Z0 := Z.cell 0 _ rfl; have Z1 := Z.cell 1 _ rfl; have Zlt := Z.lt
    by_cases hlt : k < n
    · obtain ⟨b, off, x, hA, hbb, hx, c0, c1⟩ := (HU.out _ hb).ents.en hlt
      subst hA
      have HX := Lib.hid (map_at (f := Prod.fst) hx); clear hx
      go_wp2_with (at_builtin; refine wpList_append_own _ rfl _ _ 23 rfl w3.heap.size 3 i0 (.int .i64 0) 1 8 Tryz.underlying23 hi hz0 hz1 hz2 rfl (by decide) _ _ _ rfl (hown.alloc _) ⟨wr.heap.size, 0, none⟩ 1 1 [.int .i64 x.1] rfl rfl ?c1 ?c2 ?c3 ?c4 ?c5 ?_)
      case c1 => exact cell_list_at rfl _ _
      case c2 => simp [Value.oneCell']
      case c3 => unfold maxLen; omega
      case c4 => omega
      case c5 => simp; omega
      · intro v' w5 hown' hgrow _
        have hb5 : Below w3.heap.size wr w5 := Below.grown ((Below.refl _ _).alloc (by omega) _) hgrow (by simp; omega) (fun g hg => (hown.lt g hg).1)
        clear hgrow hown
        go_wp2_with fail
        go_roundw
        case rel => exact ⟨k + 1, by omega, by go_num, by unfold keysE; rw [take_snocS HX.out, List.flatMap_append]; exact hown', Z.keepD hb5 (by omega), hb.trans (hb5.mono (by omega)), Nat.le_trans hz hb5.size⟩
        case measure => simp [intOf]; omega
    · obtain rfl : k = n := by omega
      have hnl : (keysE e).length = k := by unfold keysE; rw [List.length_map]; exact HL.out
      rw [List.take_of_length_le (by omega)] at hown
      obtain ⟨A2, c2, rfl, _⟩ := own_form hown
      have hSo := Sl.of_own (enc := encI) encI_len hown hnl
      have HSO := Lib.hid hSo.any
      clear hown hSo hnl
      have HNX : Hid (nextE 1 6 2 e (keysE e) = (e, 0)) := next_sameE HV.out
      go_wp2_with fail
      refine (pnext_any A k c A' n' c' e A2 k c2 (keysE e) _ hn hn' hn (HU.out _ hb) HSO.out).mono ?_
      rw [HNX.out]
      rintro r w5 ⟨⟨P, p, q, P', p', q', rfl, hP⟩, hb5⟩
      simp only at hP
      have hlens := valid_lens HV.out
      have hp1 : p ≤ 1000000 := by have := hP.ents.len; omega
      have hp2 : p' ≤ 1000000 := by have := hP.ret.len; omega
      clear hlens
      (replace hb := hb.trans (hb5.mono hb.size)); replace Z := Z.up hb5; clear hb5; (try clear Z0); (try clear Z1); (try clear Zlt)
      have hbW : Below w5.heap.size w5 (w5.alloc (.cells #[.slice P p q, .slice P' p' q'] 25)) := one_alloc _ _
      have Z0 := Z.cell 0 _ rfl; have Z1 := Z.cell 1 _ rfl; have Zlt := Z.lt
      dsimp only
      go_wp2_with fail
      refine (editions_any P p q P' p' q' e A k c A' n' c' e _ hp1 hp2 hn hn' (hP.up hbW) (HU.out _ (hb.trans (hbW.mono hb.size)))).mono ?_; rintro r w6 ⟨rfl, hb6⟩
      rw [decide_eq_true (rfl : e = e)]
      obtain ⟨_, hb', _⟩ := step1 hb hb6
      go_wp2_with fail
      go_ret
      exact ⟨rfl, hb'⟩
end Go.Proofs.YtfanjghfilkhmaaGreatDoor
