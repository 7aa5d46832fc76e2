/- Next: the reference's (chapter 47). -/
import Derived.Test.YtfanjghfilkhmaaGreatDoorGg
import Derived.Deep.AppendLies
import Derived.Deep.RegionLaw
set_option linter.unusedSimpArgs false
set_option linter.unusedVariables false
namespace Go.Proofs.YtfanjghfilkhmaaGreatDoor
open Go.RowKit

theorem Tryz.infoI : (Tryz.prog.info? 3).map (fun i => (i.zero, i.size, i.bytes)) = some (some (.int .i64 0), 1, 8) := by kernel_rfl
theorem Tryz.infoE : (Tryz.prog.info? 36).map (fun i => (i.zero, i.size, i.bytes)) = some (some (.agg #[.int .i64 0, .int .i64 0]), 2, 16) := by kernel_rfl
theorem cell_list_at {W : World} {n : Nat} (hn : W.heap.size = n) (vs : List Value) (t : TypeId) : ∀ j u, vs[j]? = some u → (W.alloc (.cells vs.toArray t)).cell? ((⟨n, 0, none⟩ : Addr).add j) = some u := by
  subst hn
  intro j u h
  rw [Go.WideShapes.add_plain, World.cell?_alloc_new, Nat.zero_add]
  simpa using h
theorem okL_iff {l : List Int} : okList l 9999 ↔ (l.length ≤ 64 ∧ ascR l 1 9999 = true) := by
  unfold okList ascR
  rw [decide_eq_true_iff]
  exact ⟨fun h => ⟨h.2.2, h.1, h.2.1⟩, fun h => ⟨h.2.1, h.2.2, h.1⟩⟩
theorem keepK {w0 w w1 : World} {p bk o : Nat} {a0 a1 kv : Value} (hp : p < w0.heap.size) (hk : bk < w0.heap.size)
    (H : w.cell? ⟨p, 0, none⟩ = some a0 ∧ w.cell? ⟨p, 1, none⟩ = some a1 ∧ w.cell? ⟨bk, o, none⟩ = some kv ∧ Below w0.heap.size w0 w) (hb : Below w.heap.size w w1) :
    w1.cell? ⟨p, 0, none⟩ = some a0 ∧ w1.cell? ⟨p, 1, none⟩ = some a1 ∧ w1.cell? ⟨bk, o, none⟩ = some kv ∧ Below w0.heap.size w0 w1 := by
  obtain ⟨x0, x1, x2, xb⟩ := H
  have hs := xb.size
  have g : ∀ b o v, b < w0.heap.size → w.cell? ⟨b, o, none⟩ = some v → w1.cell? ⟨b, o, none⟩ = some v := fun b o v hlt h => (hb.cell (p := ⟨b, o, none⟩) (by show b < _; omega)).trans h
  exact ⟨g _ _ _ hp x0, g _ _ _ hp x1, g _ _ _ hk x2, xb.trans (hb.mono hs)⟩
theorem last4 {a b c z : Prop} (h : a ∧ b ∧ c ∧ z) : z := h.2.2.2

set_option maxRecDepth 100000 in
set_option maxHeartbeats 8000000 in
theorem rnext_any (A : Option Addr) (n c : Nat) (A' : Option Addr) (n' c' : Nat) (e : Ed) (K : Option Addr) (nk ck : Nat) (l : List Int) (w : World) (hn : n ≤ 1000000) (hn' : n' ≤ 1000000) (hnk : nk ≤ 1000000) (hS : EdS w A n A' n' e) (hK : Sl w 0 w.heap.size 1 encI K nk l) :
    Calls Tryz.prog 14 #[.agg #[.slice A n c, .slice A' n' c'], .slice K nk ck] w (EdOut w (nextE 1 6 2 e l).1 (nextE 1 6 2 e l).2) := by
  have HLK := Lib.hid hK.len
  have HU : Hid (∀ W, Below w.heap.size w W → EdS W A n A' n' e) := fun W hW => hS.up hW
  have HKU : Hid (∀ W, Below w.heap.size w W → Sl W 0 W.heap.size 1 encI K nk l) := fun W hW => hK.up hW (Nat.le_refl _) (Nat.le_refl _)
  clear hS hK
  go_enter Tryz.func14, Tryz.ntmps14
  go_wp2_with fail
  refine (rvalid_any A n c A' n' c' e _ hn hn' (HU.out _ (by (repeat (first | exact Below.refl _ _ | assumption | refine Below.alloc ?_ (by first | omega | (simp only [World.size_alloc]; omega) | (simp; done) | (simp; omega)) _ | refine Below.setCell ?_ (by first | omega | (simp only [World.size_alloc]; omega) | (simp; done) | (simp; omega)) _ | refine Below.drew ?_ | refine below_drewN ?_ _))))).mono ?_; rintro r w1 ⟨rfl, hb1⟩
  obtain ⟨_, hb, Z, R⟩ := step2 (Below.refl _ w) hb1
  clear hb1
  by_cases hv : ¬ validE e
  · have HV := Lib.hid (next_arg (e := e) (l := l) fun h => hv h.1)
    rw [decide_eq_false hv]
    clear hv
    have R0 := R.cell 0 _ rfl; have Rf0 := R.frz 0; have R1 := R.cell 1 _ rfl; have Rf1 := R.frz 1; have Rlt := R.lt
    go_wp2_with fail
    refine bodyPost_ret (v := .tuple #[.agg #[.slice none 0 0, .slice none 0 0], .int .i64 1]) (by simp [results, Tryz.results14, go_sem, (R.all2 _ _).cell 0 _ rfl, (R.all2 _ _).cell 1 _ rfl]) rfl ?_
    rw [HV.out]
    exact ⟨⟨_, _, _, _, _, _, rfl, EdS.none⟩, below_set2 hb (by omega) _ _⟩
  replace hv := Classical.not_not.1 hv
  rw [decide_eq_true hv]
  have HVE := Lib.hid hv; clear hv
  have R0 := R.cell 0 _ rfl; have Rf0 := R.frz 0; have R1 := R.cell 1 _ rfl; have Rf1 := R.frz 1; have Rlt := R.lt
  by_cases h64 : 64 < nk
  · have HV := Lib.hid (next_arg (e := e) (l := l) fun h => by have := (okL_iff.1 h.2).1; have := HLK.out; omega)
    go_wp2_with fail
    refine bodyPost_ret (v := .tuple #[.agg #[.slice none 0 0, .slice none 0 0], .int .i64 1]) (by simp [results, Tryz.results14, go_sem, (R.all2 _ _).cell 0 _ rfl, (R.all2 _ _).cell 1 _ rfl]) rfl ?_
    rw [HV.out]
    exact ⟨⟨_, _, _, _, _, _, rfl, EdS.none⟩, below_set2 hb (by omega) _ _⟩
  go_wp2_with fail
  refine (basc_any K nk ck l _ _ _ hnk (HKU.out _ hb)).mono ?_; rintro r w2 ⟨rfl, hb2⟩
  (replace hb := hb.trans (hb2.mono hb.size)); replace Z := Z.up hb2; replace R := R.up hb2; clear hb2; (try clear Z0); (try clear Z1); (try clear Zf0); (try clear Zf1); (try clear Zlt); (try clear R0); (try clear R1); (try clear Rf0); (try clear Rf1); (try clear Rlt)
  cases ha : ascR l 1 9999
  · have HV := Lib.hid (next_arg (e := e) (l := l) fun h => by have := (okL_iff.1 h.2).2; rw [ha] at this; cases this)
    clear ha
    have R0 := R.cell 0 _ rfl; have Rf0 := R.frz 0; have R1 := R.cell 1 _ rfl; have Rf1 := R.frz 1; have Rlt := R.lt
    go_wp2_with fail
    refine bodyPost_ret (v := .tuple #[.agg #[.slice none 0 0, .slice none 0 0], .int .i64 1]) (by simp [results, Tryz.results14, go_sem, (R.all2 _ _).cell 0 _ rfl, (R.all2 _ _).cell 1 _ rfl]) rfl ?_
    rw [HV.out]
    exact ⟨⟨_, _, _, _, _, _, rfl, EdS.none⟩, below_set2 hb (by omega) _ _⟩
  have HOK : Hid (validE e ∧ okList l 9999) := ⟨HVE.out, okL_iff.2 ⟨by have := HLK.out; omega, ha⟩⟩
  clear ha
  obtain ⟨i0, hi, hz0, hz1, hz2⟩ := info_parts Tryz.infoI
  obtain ⟨i1, hi1, hy0, hy1, hy2⟩ := info_parts Tryz.infoE
  have Z0 := Z.cell 0 _ rfl; have Zf0 := Z.frz 0; have Z1 := Z.cell 1 _ rfl; have Zf1 := Z.frz 1; have Zlt := Z.lt
  go_wp2_with fail
  have hOlt : w.heap.size + 1 < w2.heap.size := R.lt
  have O := Bx.new w2 [.slice none 0 0, .slice none 0 0] 25
  have hb0 : Below w.heap.size w (w2.alloc (.cells #[.slice none 0 0, .slice none 0 0] 25)) := hb.alloc hb.size _
  replace Z := Z.alloc (.cells #[.slice none 0 0, .slice none 0 0] 25)
  replace R := R.alloc (.cells #[.slice none 0 0, .slice none 0 0] 25)
  have hsz0 : (w2.alloc (.cells #[.slice none 0 0, .slice none 0 0] 25)).heap.size = w2.heap.size + 1 := by simp
  generalize w2.alloc (.cells #[.slice none 0 0, .slice none 0 0] 25) = W0 at *
  generalize w2.heap.size = bo at *
  clear hb Z0 Z1 Zlt
  have HSZ := Lib.hid hsz0; clear hsz0
  go_loopw [7] (fun s wr => ∃ (k : Nat) (v : Value), k ≤ 999 ∧ s = .int .i64 ((k : Int) + 1) ∧ wr.ownsRow (bo + 1) 3 1 v (retK e l k).length ((retK e l k).flatMap encI) ∧ Bx wr w.heap.size [.slice A n c, .slice A' n' c'] ∧ Bx wr (w.heap.size + 1) [.slice none 0 0, .slice none 0 0] ∧ Bx wr bo [.slice none 0 0, v] ∧ Below w.heap.size w wr) (fun s _ => 1000 - (intOf s).toNat)
  case atStart => exact ⟨0, .slice none 0 0, by omega, rfl, World.ownsRow_nil _ _ _ _, Z, R, O, hb0⟩
  case round =>
    clear hb0 Z R O
    obtain ⟨k, v, hk, rfl, hown, Z, R, O, hb⟩ := hrel
    have hOl := O.lt
    by_cases hlt : k < 999
    · have hrl := retK_len e l k
      have Z0 := Z.cell 0 _ rfl; have Z1 := Z.cell 1 _ rfl; have Zlt := Z.lt
      go_wp2_with fail
      refine (rowner_any A n c A' n' c' e _ _ hn (HU.out _ hb)).mono ?_; rintro r w3 ⟨rfl, hb3⟩
      replace hown := own_below' hown hb3
      (replace hb := hb.trans (hb3.mono hb.size)); replace Z := Z.up hb3; replace R := R.up hb3; replace O := O.up hb3; clear hb3; (try clear Z0); (try clear Z1); (try clear Zf0); (try clear Zf1); (try clear Zlt); (try clear R0); (try clear R1); (try clear Rf0); (try clear Rf1); (try clear Rlt); (try clear O0); (try clear O1); (try clear Of0); (try clear Of1); (try clear Olt)
      replace hOl := O.lt
      have Z0 := Z.cell 0 _ rfl; have Z1 := Z.cell 1 _ rfl; have Zlt := Z.lt
      have HR : Hid (∀ W, Below w.heap.size w W → Calls Tryz.prog 39 #[.slice A' n' c', .int .i64 ((k : Int) + 1)] W fun r w' => r = .returned (.bool (decide (((k : Int) + 1) ∈ e.ret))) ∧ W = w') := fun W hW => has_any A' n' c' _ _ _ hn' (HU.out _ hW).ret
      have HRK : Hid (∀ W, Below w.heap.size w W → Calls Tryz.prog 39 #[.slice K nk ck, .int .i64 (own0 e ((k : Int) + 1))] W fun r w' => r = .returned (.bool (decide ((own0 e ((k : Int) + 1)) ∈ l))) ∧ W = w') := fun W hW => has_any K nk ck _ _ _ hnk (HKU.out _ hW)
      have HP1 : Hid ((k : Int) + 1 ∈ e.ret → retPred e l ((k : Int) + 1) = true) := retP_ret
      have HP2 : Hid ((k : Int) + 1 ∉ e.ret → ¬ 0 < own0 e ((k : Int) + 1) → retPred e l ((k : Int) + 1) = false) := retP_none HVE.out
      have HP3 : Hid ((k : Int) + 1 ∉ e.ret → 0 < own0 e ((k : Int) + 1) → retPred e l ((k : Int) + 1) = !decide (own0 e ((k : Int) + 1) ∈ l)) := retP_some
      have HY : Hid (retPred e l ((k : Int) + 1) = true → retK e l (k + 1) = retK e l k ++ [(k : Int) + 1]) := retK_yes
      have HN : Hid (retPred e l ((k : Int) + 1) = false → retK e l (k + 1) = retK e l k) := retK_no
      generalize own0 e ((k : Int) + 1) = ow at *
      generalize retK e l k = rk at *
      cases hm : decide ((k : Int) + 1 ∈ e.ret)
      · have HM := Lib.hid (of_decide_eq_false hm)
        rw [hm] at HR
        clear hm
        by_cases h0 : 0 < ow
        · cases hk2 : decide (ow ∈ l)
          · have HNN := Lib.hid (HY.out (by rw [HP3.out HM.out h0, hk2]; rfl))
            rw [hk2] at HRK
            clear hk2
            have O0 := O.cell 0 _ rfl; have Of0 := O.frz 0; have O1 := O.cell 1 _ rfl; have Of1 := O.frz 1; have Olt := O.lt
            go_wp2_with fail
            refine (HR.out _ hb).mono ?_; rintro r w4 ⟨rfl, rfl⟩
            go_wp2_with fail
            refine (HRK.out _ hb).mono ?_; rintro r w4 ⟨rfl, rfl⟩
            go_wp2_with (at_builtin; refine wpList_append_own _ rfl _ _ 23 rfl (bo + 1) 3 i0 (.int .i64 0) 1 8 Tryz.underlying23 hi hz0 hz1 hz2 rfl (by decide) _ _ _ rfl (hown.alloc _) ⟨w3.heap.size, 0, none⟩ 1 1 [.int .i64 ((k : Int) + 1)] rfl rfl ?c1 ?c2 ?c3 ?c4 ?c5 ?_)
            case c1 => exact cell_list_at rfl _ _
            case c2 => simp [Value.oneCell']
            case c3 => unfold maxLen; omega
            case c4 => omega
            case c5 => simp; omega
            · intro v' w5 hown' hgrow _
              obtain ⟨Av, cv, rfl, _⟩ := own_form hown'
              have hb5 : Below (bo + 1) w3 w5 := Below.grown ((one_alloc w3 _).mono (by omega)) hgrow (by simp; omega) (fun g hg => (hown.lt g hg).1)
              have hz5 : w3.heap.size ≤ w5.heap.size := hb5.size
              replace hb := hb.trans (hb5.mono (by omega))
              replace O := O.keepD hb5 (by omega)
              replace Z := Z.keepD hb5 (by omega)
              replace R := R.keepD hb5 (by omega)
              clear hb5 hgrow hown O0 O1 Of0 Of1 Olt Z0 Z1 Zlt
              have O0 := O.cell 0 _ rfl; have Of0 := O.frz 0; have O1 := O.cell 1 _ rfl; have Of1 := O.frz 1; have Olt := O.lt
              go_wp2_with fail
              go_roundw
              case rel => exact ⟨k + 1, _, by omega, by go_num, by rw [HNN.out, List.flatMap_append, List.length_append]; exact ownsRow_setCell_below hown' (by simp) _, Z.far (by simp; omega) _, R.far (by simp; omega) _, O.set (i := 1) (by simp) _, hb.setCell (by simp; omega) _⟩
              case measure => simp [intOf]; omega
          · have HNN := Lib.hid (HN.out (by rw [HP3.out HM.out h0, hk2]; rfl))
            rw [hk2] at HRK
            clear hk2
            go_wp2_with fail
            refine (HR.out _ hb).mono ?_; rintro r w4 ⟨rfl, rfl⟩
            go_wp2_with fail
            refine (HRK.out _ hb).mono ?_; rintro r w4 ⟨rfl, rfl⟩
            go_wp2_with fail
            go_roundw
            case rel => exact ⟨k + 1, v, by omega, by go_num, by rw [HNN.out]; exact hown, Z, R, O, hb⟩
            case measure => simp [intOf]; omega
        · have HNN := Lib.hid (HN.out (HP2.out HM.out h0))
          have h0' : decide (0 < ow) = false := decide_eq_false h0
          go_wp2_with fail
          refine (HR.out _ hb).mono ?_; rintro r w4 ⟨rfl, rfl⟩
          go_wp2_with fail
          go_roundw
          case rel => exact ⟨k + 1, v, by omega, by go_num, by rw [HNN.out]; exact hown, Z, R, O, hb⟩
          case measure => simp [intOf]; omega
      · have HM := Lib.hid (of_decide_eq_true hm)
        have HNN := Lib.hid (HY.out (HP1.out HM.out))
        rw [hm] at HR
        clear hm
        have O0 := O.cell 0 _ rfl; have Of0 := O.frz 0; have O1 := O.cell 1 _ rfl; have Of1 := O.frz 1; have Olt := O.lt
        go_wp2_with fail
        refine (HR.out _ hb).mono ?_; rintro r w4 ⟨rfl, rfl⟩
        go_wp2_with (at_builtin; refine wpList_append_own _ rfl _ _ 23 rfl (bo + 1) 3 i0 (.int .i64 0) 1 8 Tryz.underlying23 hi hz0 hz1 hz2 rfl (by decide) _ _ _ rfl (hown.alloc _) ⟨w3.heap.size, 0, none⟩ 1 1 [.int .i64 ((k : Int) + 1)] rfl rfl ?c1 ?c2 ?c3 ?c4 ?c5 ?_)
        case c1 => exact cell_list_at rfl _ _
        case c2 => simp [Value.oneCell']
        case c3 => unfold maxLen; omega
        case c4 => omega
        case c5 => simp; omega
        · intro v' w5 hown' hgrow _
          obtain ⟨Av, cv, rfl, _⟩ := own_form hown'
          have hb5 : Below (bo + 1) w3 w5 := Below.grown ((one_alloc w3 _).mono (by omega)) hgrow (by simp; omega) (fun g hg => (hown.lt g hg).1)
          have hz5 : w3.heap.size ≤ w5.heap.size := hb5.size
          replace hb := hb.trans (hb5.mono (by omega))
          replace O := O.keepD hb5 (by omega)
          replace Z := Z.keepD hb5 (by omega)
          replace R := R.keepD hb5 (by omega)
          clear hb5 hgrow hown O0 O1 Of0 Of1 Olt Z0 Z1 Zlt
          have O0 := O.cell 0 _ rfl; have Of0 := O.frz 0; have O1 := O.cell 1 _ rfl; have Of1 := O.frz 1; have Olt := O.lt
          go_wp2_with fail
          go_roundw
          case rel => exact ⟨k + 1, _, by omega, by go_num, by rw [HNN.out, List.flatMap_append, List.length_append]; exact ownsRow_setCell_below hown' (by simp) _, Z.far (by simp; omega) _, R.far (by simp; omega) _, O.set (i := 1) (by simp) _, hb.setCell (by simp; omega) _⟩
          case measure => simp [intOf]; omega
    · obtain rfl : k = 999 := by omega
      have HRL : Hid (retK e l 999 = retE e l) := by show _ = _; rw [retK_all]; exact (ret_eq HVE.out l).symm
      have hrl := retK_len e l 999
      rw [HRL.out] at hown hrl
      have HF : Hid (64 < (retE e l).length → nextE 1 6 2 e l = (edZero, 6)) := next_full HOK.out
      have HG : Hid ((retE e l).length ≤ 64 → 999 < (newEnts e l (topE e)).2 → nextE 1 6 2 e l = (edZero, 2)) := next_range HOK.out
      have HH : Hid ((retE e l).length ≤ 64 → (newEnts e l (topE e)).2 ≤ 999 → nextE 1 6 2 e l = (⟨(newEnts e l (topE e)).1, retE e l⟩, 0)) := next_ok HOK.out
      obtain ⟨Av, cv, rfl, _⟩ := own_form hown
      have hSr := Sl.of_own (enc := encI) encI_len hown rfl
      clear hown
      generalize retE e l = rt at *
      have O0 := O.cell 0 _ rfl; have Of0 := O.frz 0; have O1 := O.cell 1 _ rfl; have Of1 := O.frz 1; have Olt := O.lt
      have R0 := R.cell 0 _ rfl; have Rf0 := R.frz 0; have R1 := R.cell 1 _ rfl; have Rf1 := R.frz 1; have Rlt := R.lt
      have Z0 := Z.cell 0 _ rfl; have Z1 := Z.cell 1 _ rfl; have Zlt := Z.lt
      by_cases h64r : 64 < rt.length
      · have HV := Lib.hid (HF.out h64r)
        go_wp2_with fail
        refine bodyPost_ret (v := .tuple #[.agg #[.slice none 0 0, .slice none 0 0], .int .i64 6]) (by simp [results, Tryz.results14, go_sem, (R.all2 _ _).cell 0 _ rfl, (R.all2 _ _).cell 1 _ rfl]) rfl ?_
        rw [HV.out]
        exact ⟨⟨_, _, _, _, _, _, rfl, EdS.none⟩, below_set2 hb (by omega) _ _⟩
      · have h64r' : rt.length ≤ 64 := by omega
        have HT := Lib.hid (topV_yes HVE.out)
        go_wp2_with fail
        refine (rtop_any A n c A' n' c' e _ hn hn' (HU.out _ hb)).mono ?_; rintro r w3 ⟨rfl, hb3⟩
        rw [HT.out]
        replace hSr := hSr.below hb3 (Nat.le_refl _)
        have hz3 := hb3.size
        (replace hb := hb.trans (hb3.mono hb.size)); replace Z := Z.up hb3; replace R := R.up hb3; replace O := O.up hb3; clear hb3; (try clear Z0); (try clear Z1); (try clear Zf0); (try clear Zf1); (try clear Zlt); (try clear R0); (try clear R1); (try clear Rf0); (try clear Rf1); (try clear Rlt); (try clear O0); (try clear O1); (try clear Of0); (try clear Of1); (try clear Olt)
        have htl : topE e ≤ 999 := top_le HVE.out
        have hOl3 := O.lt
        go_wp2_with fail
        replace hSr := hSr.more hz3
        have hbb : Below w.heap.size w w3 := hb
        clear hz3
        obtain ⟨B1, hB1⟩ : ∃ B1, B1 = w3.heap.size := ⟨_, rfl⟩
        rw [← hB1] at hSr
        have hB1' : B1 ≤ w3.heap.size := by omega
        have hbo1 : bo + 1 ≤ B1 := by omega
        clear hB1
        go_loopw [9, 11] (fun t s wr => ∃ (j : Nat) (v : Value), j ≤ nk ∧ s = .int .i64 (j : Int) ∧ t = .int .i64 (newEnts e (l.take j) (topE e)).2 ∧ (newEnts e (l.take j) (topE e)).2 ≤ 999 ∧ wr.ownsRow B1 36 2 v (newEnts e (l.take j) (topE e)).1.length ((newEnts e (l.take j) (topE e)).1.flatMap encE) ∧ Sl wr (bo + 1) B1 1 encI Av rt.length rt ∧ Bx wr w.heap.size [.slice A n c, .slice A' n' c'] ∧ Bx wr (w.heap.size + 1) [.slice none 0 0, .slice none 0 0] ∧ Bx wr bo [v, .slice Av rt.length cv] ∧ Below w.heap.size w wr ∧ B1 ≤ wr.heap.size) (fun _ s _ => nk - (intOf s).toNat)
        case atStart => exact ⟨0, .slice none 0 0, by omega, rfl, rfl, htl, World.ownsRow_nil _ _ _ _, hSr, Z, R, O, hbb, hB1'⟩
        case round =>
          clear hb Z R O hSr hB1' hbb
          obtain ⟨j, v, hj, rfl, rfl, ht9, hown, hSr, Z, R, O, hb, hB1⟩ := hrel
          by_cases hlt : j < nk
          · obtain ⟨bk, off, x, hA, hbk, hx, c0⟩ := (HKU.out _ hb).in_ hlt
            subst hA
            have HX := Lib.hid hx; clear hx
            have Z0 := Z.cell 0 _ rfl; have Z1 := Z.cell 1 _ rfl; have Zlt := Z.lt
            have HFI : Hid (∀ W, Below w.heap.size w W → Calls Tryz.prog 40 #[.agg #[.slice A n c, .slice A' n' c'], .int .i64 x] W fun r w' => r = .returned (.int .i64 (find0 e x)) ∧ Below W.heap.size W w') := fun W hW => rfind_any A n c A' n' c' e x W hn (HU.out _ hW)
            have hbR : Below w.heap.size w wr := hb
            go_wp2_with fail
            go_region_held3 (fun V => V.cell? ⟨w.heap.size, 0, none⟩ = some (.slice A n c) ∧ V.cell? ⟨w.heap.size, 1, none⟩ = some (.slice A' n' c') ∧ V.cell? ⟨bk, off + j, none⟩ = some (.int .i64 x) ∧ Below wr.heap.size wr V)
              (first | exact ⟨Z0, Z1, c0, Below.drew (Below.refl _ _)⟩ | exact keepK Zlt hbk (by assumption) (by assumption) | go_keep)
              ((go_at_call 40; refine (HFI.out _ (below_keep' hbR (last4 (by assumption)))).mono ?_; rintro r w4 ⟨rfl, hb4⟩))
            rename_i hH
            have hb5 := last4 hH
            clear hH hb4 hbR
            replace hown := own_below' hown hb5
            replace hSr := hSr.below hb5 hB1
            replace hB1 := Nat.le_trans hB1 hb5.size
            have hwk := Nat.lt_of_lt_of_le hbk hb5.size
            have c1 : w4.cell? ⟨bk, off + j, none⟩ = some (.int .i64 x) := (hb5.cell (p := ⟨bk, off + j, none⟩) hbk).trans c0
            clear c0
            (replace hb := hb.trans (hb5.mono hb.size)); replace Z := Z.up hb5; replace R := R.up hb5; replace O := O.up hb5; clear hb5; (try clear Z0); (try clear Z1); (try clear Zf0); (try clear Zf1); (try clear Zlt); (try clear R0); (try clear R1); (try clear Rf0); (try clear Rf1); (try clear Rlt); (try clear O0); (try clear O1); (try clear Of0); (try clear Of1); (try clear Olt)
            have hesl : (newEnts e (l.take j) (topE e)).1.length ≤ nk := by rw [newEnts_len, List.length_take]; omega
            have hup := newEnts_up e (l.take j) (topE e)
            obtain ⟨es, t, hne⟩ : ∃ es t, newEnts e (l.take j) (topE e) = (es, t) := ⟨_, _, rfl⟩
            have HS1 : Hid (∀ m, findE e x = some m → newEnts e (l.take (j + 1)) (topE e) = (es ++ [(x, m)], t)) := fun m hm => by rw [newEnts_some HX.out hm, hne]
            have HS2 : Hid (findE e x = none → newEnts e (l.take (j + 1)) (topE e) = (es ++ [(x, t + 1)], t + 1)) := fun hm => by rw [newEnts_none HX.out hm, hne]
            rw [hne] at ht9 hown hesl ⊢
            simp only at ht9 hown hesl ⊢
            have htl0 : 0 ≤ t := by have := newEnts_top e (l.take j) (topE e); rw [hne] at this; have := topE_pos e; omega
            clear hne hup
            obtain ⟨Ae, ce, rfl, _⟩ := own_form hown
            cases hf : findE e x with
            | some m =>
              have hm := (own_find HVE.out hf).2.2
              have HFO := Lib.hid (find0_of hf)
              rw [HFO.out]
              dsimp only [Option.getD]
              have HNX := Lib.hid (HS1.out m hf)
              have hm0 : (m == 0) = false := by simp; omega
              clear hf
              obtain ⟨hm1, hm2⟩ := hm
              have O0 := O.cell 0 _ rfl; have Of0 := O.frz 0; have O1 := O.cell 1 _ rfl; have Of1 := O.frz 1; have Olt := O.lt
              have Z0 := Z.cell 0 _ rfl; have Z1 := Z.cell 1 _ rfl; have Zlt := Z.lt
              go_wp2_with fail
              go_region_law (first | (refine step_append_lies _ rfl (.tmp 86) (.tmp 93) 22 rfl B1 36 i1 (.agg #[.int .i64 0, .int .i64 0]) 2 16 Tryz.underlying22 hi1 hy0 hy1 hy2 rfl (by decide) _ _ _ rfl (hown.alloc _) ⟨w4.heap.size, 0, none⟩ 1 1 [.int .i64 x, .int .i64 m] rfl rfl (cell_list_at rfl _ _) (by simp [Value.oneCell']) (by decide) (by unfold maxLen; omega) (by omega) (by simp; omega) _ rfl ?_; intro g cap w6 hown' hgrow hat hlt6; have hb6 : Below B1 w4 w6 := Below.grown (by (repeat (first | exact Below.refl _ _ | assumption | refine Below.alloc ?_ (by first | omega | (simp only [World.size_alloc]; omega) | (simp; done) | (simp; omega)) _ | refine Below.setCell ?_ (by first | omega | (simp only [World.size_alloc]; omega) | (simp; done) | (simp; omega)) _ | refine Below.drew ?_ | refine below_drewN ?_ _))) hgrow (by simp; omega) (fun g hg => (hown.lt g hg).1); have O6 := O.keepD hb6 (by omega); have O60 := O6.cell 0 _ rfl; have O61 := O6.cell 1 _ rfl; have O6f0 := O6.frz 0; have O6f1 := O6.frz 1; have O6lt := O6.lt))
              go_wp2_with fail
              all_goals
                go_roundw
                case rel => exact ⟨j + 1, _, by omega, by go_num, by rw [HNX.out], by rw [HNX.out]; omega, by rw [HNX.out]; simp only [List.flatMap_append, List.length_append]; exact ownsRow_setCell_below hown' (by simp; omega) _, (hSr.below hb6 (Nat.le_refl _)).set_ (by simp) _, (Z.keepD hb6 (by omega)).far (by simp; omega) _, (R.keepD hb6 (by omega)).far (by simp; omega) _, O6.set (i := 0) (by simp) _, (hb.trans (hb6.mono (by omega))).setCell (by simp; omega) _, by rw [size_set]; exact Nat.le_trans hB1 hb6.size⟩
                case measure => simp [intOf]; omega
            | none =>
              have HFO := Lib.hid (find0_of hf)
              rw [HFO.out]
              dsimp only [Option.getD]
              have HNX := Lib.hid (HS2.out hf)
              clear hf
              by_cases ht1 : t + 1 ≤ 999
              · have O0 := O.cell 0 _ rfl; have Of0 := O.frz 0; have O1 := O.cell 1 _ rfl; have Of1 := O.frz 1; have Olt := O.lt
                have Z0 := Z.cell 0 _ rfl; have Z1 := Z.cell 1 _ rfl; have Zlt := Z.lt
                go_wp2_with fail
                go_region_law (first | (refine step_append_lies _ rfl (.tmp 86) (.tmp 93) 22 rfl B1 36 i1 (.agg #[.int .i64 0, .int .i64 0]) 2 16 Tryz.underlying22 hi1 hy0 hy1 hy2 rfl (by decide) _ _ _ rfl (hown.alloc _) ⟨w4.heap.size, 0, none⟩ 1 1 [.int .i64 x, .int .i64 (t + 1)] rfl rfl (cell_list_at rfl _ _) (by simp [Value.oneCell']) (by decide) (by unfold maxLen; omega) (by omega) (by simp; omega) _ rfl ?_; intro g cap w6 hown' hgrow hat hlt6; have hb6 : Below B1 w4 w6 := Below.grown (by (repeat (first | exact Below.refl _ _ | assumption | refine Below.alloc ?_ (by first | omega | (simp only [World.size_alloc]; omega) | (simp; done) | (simp; omega)) _ | refine Below.setCell ?_ (by first | omega | (simp only [World.size_alloc]; omega) | (simp; done) | (simp; omega)) _ | refine Below.drew ?_ | refine below_drewN ?_ _))) hgrow (by simp; omega) (fun g hg => (hown.lt g hg).1); have O6 := O.keepD hb6 (by omega); have O60 := O6.cell 0 _ rfl; have O61 := O6.cell 1 _ rfl; have O6f0 := O6.frz 0; have O6f1 := O6.frz 1; have O6lt := O6.lt))
                go_wp2_with fail
                all_goals
                  go_roundw
                  case rel => exact ⟨j + 1, _, by omega, by go_num, by rw [HNX.out], by rw [HNX.out]; omega, by rw [HNX.out]; simp only [List.flatMap_append, List.length_append]; exact ownsRow_setCell_below hown' (by simp; omega) _, (hSr.below hb6 (Nat.le_refl _)).set_ (by simp) _, (Z.keepD hb6 (by omega)).far (by simp; omega) _, (R.keepD hb6 (by omega)).far (by simp; omega) _, O6.set (i := 0) (by simp) _, (hb.trans (hb6.mono (by omega))).setCell (by simp; omega) _, by rw [size_set]; exact Nat.le_trans hB1 hb6.size⟩
                  case measure => simp [intOf]; omega
              · have HV := Lib.hid (HG.out h64r' (by have := newEnts_le e l (j + 1) (topE e); rw [HNX.out] at this; simp only at this; omega))
                have R0 := R.cell 0 _ rfl; have Rf0 := R.frz 0; have R1 := R.cell 1 _ rfl; have Rf1 := R.frz 1; have Rlt := R.lt
                go_wp2_with fail
                refine bodyPost_ret (v := .tuple #[.agg #[.slice none 0 0, .slice none 0 0], .int .i64 2]) (by simp [results, Tryz.results14, go_sem, (R.all2 _ _).cell 0 _ rfl, (R.all2 _ _).cell 1 _ rfl]) rfl ?_
                rw [HV.out]
                exact ⟨⟨_, _, _, _, _, _, rfl, EdS.none⟩, below_set2 hb (by omega) _ _⟩
          · obtain rfl : j = nk := by omega
            have HTK : Hid (l.take j = l) := List.take_of_length_le (by have := HLK.out; omega)
            rw [HTK.out] at ht9 hown
            rw [HTK.out]
            have HV := Lib.hid (HH.out h64r' ht9)
            generalize newEnts e l (topE e) = ne at *
            obtain ⟨es, t⟩ := ne
            simp only at ht9 hown ⊢
            obtain ⟨Ae, ce, rfl, _⟩ := own_form hown
            have hSe := Sl.of_own (enc := encE) encE_len hown rfl
            clear hown
            have O0 := O.cell 0 _ rfl; have Of0 := O.frz 0; have O1 := O.cell 1 _ rfl; have Of1 := O.frz 1; have Olt := O.lt
            have R0 := R.cell 0 _ rfl; have Rf0 := R.frz 0; have R1 := R.cell 1 _ rfl; have Rf1 := R.frz 1; have Rlt := R.lt
            go_wp2_with fail
            refine bodyPost_ret (v := .tuple #[.agg #[.slice Ae es.length ce, .slice Av rt.length cv], .int .i64 0]) (by simp [results, Tryz.results14, go_sem, (R.all2 _ _).cell 0 _ rfl, (R.all2 _ _).cell 1 _ rfl]) rfl ?_
            rw [HV.out]
            refine ⟨⟨_, _, _, _, _, _, rfl, ?_, ?_⟩, below_set2 hb (by omega) _ _⟩
            · exact ((hSe.set_ (by simp; omega) _).set_ (by simp; omega) _).any.more (by simp [size_set])
            · exact ((hSr.set_ (by simp; omega) _).set_ (by simp; omega) _).any.more (by simp only [size_set]; exact hB1)
end Go.Proofs.YtfanjghfilkhmaaGreatDoor
