/- CatalogKeeps: the law's walk (chapter 47). -/
import Derived.Test.YtfanjghfilkhmaaGreatDoorIa
import Derived.Test.YtfanjghfilkhmaaGreatDoorId
import Derived.Deep.Quiet
set_option linter.unusedSimpArgs false
set_option linter.unusedVariables false
namespace Go.Proofs.YtfanjghfilkhmaaGreatDoor
open Go.RowKit

theorem next_keys (e : Ed) (l : List Int) : (nextOf e l).ents.map Prod.fst = l := newEnts_keys e l (topE e)
set_option maxRecDepth 100000 in
set_option maxHeartbeats 8000000 in
theorem keeps_law (A : Option Addr) (n c : Nat) (A' : Option Addr) (n' c' : Nat) (e : Ed) (K : Option Addr) (nk ck : Nat) (l : List Int) (w : World) (hE : Env w) (hS : EdS w A n A' n' e) (hK : Sl w 0 w.heap.size 1 encI K nk l) :
    Calls Tryz.prog 5 #[.agg #[.slice A n c, .slice A' n' c'], .slice K nk ck] w fun r w' => r = .returned (.bool true) ∧ Below w.heap.size w w' := by
  have HLK := Lib.hid hK.len
  have HEN : Hid (∀ W, Below w.heap.size w W → Env W) := fun W hW => hE.step hW
  have HU : Hid (∀ W, Below w.heap.size w W → EdS W A n A' n' e) := fun W hW => hS.up hW
  have HKU : Hid (∀ W, Below w.heap.size w W → Sl W 0 W.heap.size 1 encI K nk l) := fun W hW => hK.up hW (Nat.le_refl _) (Nat.le_refl _)
  clear hE hS hK
  go_enter Tryz.func5, Tryz.ntmps5
  go_wp2_with fail
  refine (awake_any _ (HEN.out _ (by (repeat (first | exact Below.refl _ _ | assumption | refine Below.alloc ?_ (by first | omega | (simp only [World.size_alloc]; omega) | (simp; done) | (simp; omega)) _ | refine Below.setCell ?_ (by first | omega | (simp only [World.size_alloc]; omega) | (simp; done) | (simp; omega)) _ | refine Below.drew ?_ | refine below_drewN ?_ _))))).mono ?_; rintro r w1 ⟨rfl, hb1⟩
  obtain ⟨_, hb, Z⟩ := step1 (Below.refl _ w) hb1
  clear hb1
  have Z0 := Z.cell 0 _ rfl; have Z1 := Z.cell 1 _ rfl; have Zlt := Z.lt
  go_wp2_with fail
  refine (few_any A n c A' n' c' _).mono ?_; rintro r w2 ⟨rfl, hb2⟩
  (replace hb := hb.trans (hb2.mono hb.size)); replace Z := Z.up hb2; clear hb2; (try clear Z0); (try clear Z1); (try clear Zlt)
  cases h1 : (decide (n ≤ 100) && decide (n' ≤ 100))
  · clear h1
    go_wp2_with fail
    refine (awake_any _ (HEN.out _ hb)).mono ?_; rintro r w3 ⟨rfl, hb3⟩
    (replace hb := hb.trans (hb3.mono hb.size)); clear hb3
    go_wp2_with fail
    go_ret
    exact ⟨rfl, hb⟩
  by_cases hk64 : 64 < nk
  · clear h1
    go_wp2_with fail
    refine (awake_any _ (HEN.out _ hb)).mono ?_; rintro r w3 ⟨rfl, hb3⟩
    (replace hb := hb.trans (hb3.mono hb.size)); clear hb3
    go_wp2_with fail
    go_ret
    exact ⟨rfl, hb⟩
  rw [Bool.and_eq_true, decide_eq_true_iff, decide_eq_true_iff] at h1
  have hn : n ≤ 1000000 := by omega
  have hn' : n' ≤ 1000000 := by omega
  have hnk : nk ≤ 1000000 := by omega
  clear h1
  have Z0 := Z.cell 0 _ rfl; have Z1 := Z.cell 1 _ rfl; have Zlt := Z.lt
  by_cases hok : NextOk e l
  rotate_left 1
  · have hx0 := nextE_zero (cArg := 1) (cFull := 6) (cRange := 2) hok
    have hx1 : (nextE 1 6 2 e l).2 ≠ 0 := fun h => hok ((nextE_not (by decide) (by decide) (by decide)).1 h)
    go_wp2_with fail
    refine (pnext_any A n c A' n' c' e K nk ck l _ hn hn' hnk (HU.out _ hb) (HKU.out _ hb)).mono ?_
    rw [hx0]
    rintro r w3 ⟨⟨P, p, q, P', p', q', rfl, hP⟩, hb3⟩
    obtain rfl : 0 = p := hP.ents.len
    obtain rfl : 0 = p' := hP.ret.len
    (replace hb := hb.trans (hb3.mono hb.size)); replace Z := Z.up hb3; clear hb3; (try clear Z0); (try clear Z1); (try clear Zlt)
    generalize (nextE 1 6 2 e l).2 = cd at *
    have hd : (cd != 0) = true := by simpa using hx1
    clear hx0 hok hP
    go_wp2_with fail
    go_ret
    exact ⟨rfl, hb.alloc hb.size _⟩
  have HOK := Lib.hid hok
  have HX : Hid (nextE 1 6 2 e l = (nextOf e l, 0)) := nextE_ok hok
  have HV : Hid (validE e) := hok.valid
  have HVX : Hid (validE (nextOf e l)) := next_valid hok
  have HTV : Hid (topV e = .tuple #[.int .i64 (topE e), .int .i64 0]) := topV_yes hok.valid
  have HKY : Hid ((nextOf e l).ents.map Prod.fst = l) := next_keys e l
  have HNN : Hid (∀ x ∈ (nextOf e l).ents, (∀ m, findE e x.1 = some m → x.2 = m) ∧ (findE e x.1 = none → topE e < x.2)) := fun x hx => next_number hok hx
  clear hok
  go_wp2_with fail
  refine (pnext_any A n c A' n' c' e K nk ck l _ hn hn' hnk (HU.out _ hb) (HKU.out _ hb)).mono ?_
  rw [HX.out]
  rintro r w3 ⟨⟨P, p, q, P', p', q', rfl, hP⟩, hb3⟩
  simp only at hP
  generalize nextOf e l = X at *
  obtain rfl : nk = p := by have h1 := hP.ents.len; have h2 := congrArg List.length HKY.out; rw [List.length_map] at h2; have := HLK.out; omega
  have hlens := valid_lens HVX.out
  have hp2 : p' ≤ 1000000 := by have := hP.ret.len; omega
  clear hlens
  (replace hb := hb.trans (hb3.mono hb.size)); replace Z := Z.up hb3; clear hb3; (try clear Z0); (try clear Z1); (try clear Zlt)
  have Z0 := Z.cell 0 _ rfl; have Z1 := Z.cell 1 _ rfl; have Zlt := Z.lt
  dsimp only
  go_wp2_with fail
  refine (ptop_any A n c A' n' c' e _ hn hn' (HU.out _ (hb.alloc hb.size _))).mono ?_; rintro r w4 ⟨rfl, hb4⟩
  rw [HTV.out]
  obtain ⟨h34, hb', Y⟩ := step1 hb hb4
  replace Z := Z.up h34
  replace hP := hP.up h34
  clear hb hb4 h34 Z0 Z1 Zlt
  have hb := hb'; clear hb'
  generalize w3.heap.size = b3 at *
  have Y0 := Y.cell 0 _ rfl; have Y1 := Y.cell 1 _ rfl; have Ylt := Y.lt
  go_wp2_with fail
  refine (valid_any P nk q P' p' q' X _ hnk hp2 hP).mono ?_; rintro r w5 ⟨rfl, hb5⟩
  rw [decide_eq_true HVX.out]
  have HP : Hid (∀ V, Below w5.heap.size w5 V → EdS V P nk P' p' X) := fun V hV => (hP.up hb5).up hV
  (replace hb := hb.trans (hb5.mono hb.size)); replace Z := Z.up hb5; replace Y := Y.up hb5; clear hb5; (try clear Z0); (try clear Z1); (try clear Zlt); (try clear Y0); (try clear Y1); (try clear Ylt)
  clear hP
  have Y0 := Y.cell 0 _ rfl; have Y1 := Y.cell 1 _ rfl; have Ylt := Y.lt
  have hb0 := hb
  go_wp2_with fail
  go_loopw [9] (fun s wr => ∃ k : Nat, k ≤ nk ∧ s = .int .i64 (k : Int) ∧ Bx wr w.heap.size [.slice A n c, .slice A' n' c'] ∧ Bx wr b3 [.slice P nk q, .slice P' p' q'] ∧ Below w5.heap.size w5 wr) (fun s _ => nk - (intOf s).toNat)
  case atStart => exact ⟨0, by omega, rfl, Z, Y, Below.refl _ _⟩
  case round =>
    clear Z Y Y0 Y1 Ylt
    obtain ⟨k, hk, rfl, Z, Y, hbr⟩ := hrel
    have hb : Below w.heap.size w wr := hb0.trans (hbr.mono hb0.size)
    have Z0 := Z.cell 0 _ rfl; have Z1 := Z.cell 1 _ rfl; have Zlt := Z.lt
    have Y0 := Y.cell 0 _ rfl; have Y1 := Y.cell 1 _ rfl; have Ylt := Y.lt
    by_cases hlt : k < nk
    · obtain ⟨b, off, x, hA, hbb, hx, c0, c1⟩ := (HP.out _ hbr).ents.en hlt
      obtain ⟨bk, offk, y, hKA, hbk, hy, d0⟩ := (HKU.out _ hb).in_ hlt
      subst hA
      subst hKA
      have hxy : y = x.1 := by
        have h := HKY.out
        have h2 : (X.ents.map Prod.fst)[k]? = some x.1 := by rw [List.getElem?_map, hx]; rfl
        rw [h, hy] at h2
        exact Option.some.inj h2
      subst hxy
      obtain ⟨hn1, hn2⟩ := HNN.out x (List.mem_of_getElem? hx)
      have HNU : Hid (∀ V, Below w.heap.size w V → Calls Tryz.prog 21 #[.agg #[.slice A n c, .slice A' n' c'], .int .i64 x.1] V fun r w' => r = .returned (numV e x.1) ∧ Below V.heap.size V w') := fun V hV => number_any A n c A' n' c' e x.1 V hn hn' (HU.out _ hV)
      clear hx hy
      have V := Bx.new wr [.int .i64 x.1, .int .i64 x.2] 36
      have hbW : Below wr.heap.size wr (wr.alloc (.cells #[.int .i64 x.1, .int .i64 x.2] 36)) := one_alloc _ _
      cases hf : findE e x.1 with
      | some m =>
        obtain rfl : x.2 = m := hn1 m hf
        have HNV := numV_yes HV.out hf
        clear hf hn1 hn2
        rw [HNV] at HNU
        clear HNV
        go_wp2_with fail
        generalize wr.alloc (.cells #[.int .i64 x.1, .int .i64 x.2] 36) = W0 at *
        have hbR : Below w.heap.size w W0 := hb.trans (hbW.mono hb.size)
        have hbrW : Below w5.heap.size w5 W0 := hbr.trans (hbW.mono hbr.size)
        have hbk0 : bk < W0.heap.size := Nat.lt_of_lt_of_le hbk hbW.size
        replace d0 : W0.cell? ⟨bk, offk + k, none⟩ = some (.int .i64 x.1) := (hbW.cell (p := ⟨bk, offk + k, none⟩) hbk).trans d0
        replace Z := Z.up hbW
        replace Y := Y.up hbW
        clear Z0 Z1 Zlt Y0 Y1 Ylt c0 c1 hbW
        generalize wr.heap.size = bx at *
        have Z0 := Z.cell 0 _ rfl; have Z1 := Z.cell 1 _ rfl; have Zlt := Z.lt
        go_region_held3 (fun U => U.cell? ⟨w.heap.size, 0, none⟩ = some (.slice A n c) ∧ U.cell? ⟨w.heap.size, 1, none⟩ = some (.slice A' n' c') ∧ U.cell? ⟨bk, offk + k, none⟩ = some (.int .i64 x.1) ∧ Below W0.heap.size W0 U)
          (first | exact ⟨Z0, Z1, d0, Below.drew (Below.refl _ _)⟩ | exact keepK Zlt hbk0 (by assumption) (by assumption) | go_keep)
          ((go_at_call 21; refine (HNU.out _ (below_keep' hbR (last4 (by assumption)))).mono ?_; rintro r w6 ⟨rfl, hb6⟩))
        rename_i hH
        have hb7 := last4 hH
        have d1 : w6.cell? ⟨bk, offk + k, none⟩ = some (.int .i64 x.1) := hH.2.2.1
        clear hH hb6
        replace Z := Z.up hb7
        replace Y := Y.up hb7
        replace V := V.up hb7
        have hbr6 : Below w5.heap.size w5 w6 := hbrW.trans (hb7.mono hbrW.size)
        clear Z0 Z1 Zlt d0
        have V0 := V.cell 0 _ rfl; have V1 := V.cell 1 _ rfl; have Vlt := V.lt
        go_wp2_with fail
        go_quiet (fail)
        go_wp2_with fail
        go_roundw
        case rel => exact ⟨k + 1, by omega, by go_num, Z.drewN _, Y.drewN _, below_drewN hbr6 _⟩
        case measure => simp [intOf]; omega
      | none =>
        have hlt2 := hn2 hf
        have HNV := numV_none HV.out hf
        clear hf hn1 hn2
        rw [HNV] at HNU
        clear HNV
        generalize topE e = te at *
        go_wp2_with fail
        generalize wr.alloc (.cells #[.int .i64 x.1, .int .i64 x.2] 36) = W0 at *
        have hbR : Below w.heap.size w W0 := hb.trans (hbW.mono hb.size)
        have hbrW : Below w5.heap.size w5 W0 := hbr.trans (hbW.mono hbr.size)
        have hbk0 : bk < W0.heap.size := Nat.lt_of_lt_of_le hbk hbW.size
        replace d0 : W0.cell? ⟨bk, offk + k, none⟩ = some (.int .i64 x.1) := (hbW.cell (p := ⟨bk, offk + k, none⟩) hbk).trans d0
        replace Z := Z.up hbW
        replace Y := Y.up hbW
        clear Z0 Z1 Zlt Y0 Y1 Ylt c0 c1 hbW
        generalize wr.heap.size = bx at *
        have Z0 := Z.cell 0 _ rfl; have Z1 := Z.cell 1 _ rfl; have Zlt := Z.lt
        go_region_held3 (fun U => U.cell? ⟨w.heap.size, 0, none⟩ = some (.slice A n c) ∧ U.cell? ⟨w.heap.size, 1, none⟩ = some (.slice A' n' c') ∧ U.cell? ⟨bk, offk + k, none⟩ = some (.int .i64 x.1) ∧ Below W0.heap.size W0 U)
          (first | exact ⟨Z0, Z1, d0, Below.drew (Below.refl _ _)⟩ | exact keepK Zlt hbk0 (by assumption) (by assumption) | go_keep)
          ((go_at_call 21; refine (HNU.out _ (below_keep' hbR (last4 (by assumption)))).mono ?_; rintro r w6 ⟨rfl, hb6⟩))
        rename_i hH
        have hb7 := last4 hH
        have d1 : w6.cell? ⟨bk, offk + k, none⟩ = some (.int .i64 x.1) := hH.2.2.1
        clear hH hb6
        replace Z := Z.up hb7
        replace Y := Y.up hb7
        replace V := V.up hb7
        have hbr6 : Below w5.heap.size w5 w6 := hbrW.trans (hb7.mono hbrW.size)
        clear Z0 Z1 Zlt d0
        have V0 := V.cell 0 _ rfl; have V1 := V.cell 1 _ rfl; have Vlt := V.lt
        go_wp2_with fail
        go_quiet (fail)
        go_wp2_with fail
        go_roundw
        case rel => exact ⟨k + 1, by omega, by go_num, Z.drewN _, Y.drewN _, below_drewN hbr6 _⟩
        case measure => simp [intOf]; omega
    · obtain rfl : k = nk := by omega
      go_wp2_with fail
      go_ret
      exact ⟨rfl, hb⟩
end Go.Proofs.YtfanjghfilkhmaaGreatDoor
