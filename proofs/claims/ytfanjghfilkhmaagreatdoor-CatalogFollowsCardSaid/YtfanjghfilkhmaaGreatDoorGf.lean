/- Follows: the reference's (chapter 47). -/
import Derived.Test.YtfanjghfilkhmaaGreatDoorGe
set_option linter.unusedSimpArgs false
set_option linter.unusedVariables false
namespace Go.Proofs.YtfanjghfilkhmaaGreatDoor
open Go.RowKit

noncomputable instance (e f : Ed) : Decidable (followsE e f) := Classical.propDecidable _
noncomputable def folB (e f : Ed) : Bool := decide (followsE e f)
theorem folB_no1 {e f : Ed} (h : ¬ validE e) : folB e f = false := decide_eq_false fun h' => h h'.1
theorem folB_no2 {e f : Ed} (h : ¬ validE f) : folB e f = false := decide_eq_false fun h' => h h'.2.1
def okX (f : Ed) (x : Int × Int) : Prop := ¬ (find0 f x.1 ≠ 0 ∧ find0 f x.1 ≠ x.2) ∧ ¬ (find0 f x.1 = 0 ∧ x.2 ∉ f.ret)
theorem fol_ref {e f : Ed} (he : validE e) (hf : validE f) : followsE e f ↔ (∀ x ∈ e.ents, okX f x) ∧ ∀ r ∈ e.ret, r ∈ f.ret := follows_ref he hf
theorem folB_ent {e f : Ed} (he : validE e) (hf : validE f) {k : Nat} {x : Int × Int} (hx : e.ents[k]? = some x) (h : ¬ okX f x) : folB e f = false :=
  decide_eq_false fun h' => h (((fol_ref he hf).1 h').1 x (List.mem_of_getElem? hx))
theorem folB_ret {e f : Ed} (he : validE e) (hf : validE f) {k : Nat} {r : Int} (hx : e.ret[k]? = some r) (h : r ∉ f.ret) : folB e f = false :=
  decide_eq_false fun h' => h (((fol_ref he hf).1 h').2 r (List.mem_of_getElem? hx))
theorem folB_yes {e f : Ed} (he : validE e) (hf : validE f) (h1 : ∀ x ∈ e.ents, okX f x) (h2 : ∀ r ∈ e.ret, r ∈ f.ret) : folB e f = true := decide_eq_true ((fol_ref he hf).2 ⟨h1, h2⟩)
set_option maxRecDepth 100000 in
set_option maxHeartbeats 4000000 in
theorem rfollows_any (A : Option Addr) (n c : Nat) (A' : Option Addr) (n' c' : Nat) (e : Ed) (B : Option Addr) (m d : Nat) (B' : Option Addr) (m' d' : Nat) (f : Ed) (w : World) (hn : n ≤ 1000000) (hn' : n' ≤ 1000000) (hm : m ≤ 1000000) (hm' : m' ≤ 1000000) (hS : EdS w A n A' n' e) (hT : EdS w B m B' m' f) :
    Calls Tryz.prog 25 #[.agg #[.slice A n c, .slice A' n' c'], .agg #[.slice B m d, .slice B' m' d']] w fun r w' => r = .returned (.bool (folB e f)) ∧ Below w.heap.size w w' := by
  have HL := Lib.hid hS.ents.len
  have HL' := Lib.hid hS.ret.len
  have HU : Hid (∀ W, Below w.heap.size w W → EdS W A n A' n' e) := fun W hW => hS.up hW
  have HT : Hid (∀ W, Below w.heap.size w W → EdS W B m B' m' f) := fun W hW => hT.up hW
  clear hS hT
  go_enter Tryz.func25, Tryz.ntmps25
  go_wp2_with fail
  refine (rvalid_any A n c A' n' c' e _ hn hn' (HU.out _ (by (repeat (first | exact Below.refl _ _ | assumption | refine Below.alloc ?_ (by first | omega | (simp only [World.size_alloc]; omega) | (simp; done) | (simp; omega)) _ | refine Below.setCell ?_ (by first | omega | (simp only [World.size_alloc]; omega) | (simp; done) | (simp; omega)) _ | refine Below.drew ?_ | refine below_drewN ?_ _))))).mono ?_; rintro r w1 ⟨rfl, hb1⟩
  obtain ⟨_, hb, Z, Y⟩ := step2 (Below.refl _ w) hb1
  clear hb1
  by_cases hv : ¬ validE e
  · have HV := Lib.hid (folB_no1 (f := f) hv)
    rw [decide_eq_false hv]
    clear hv
    go_wp2_with fail
    go_ret
    exact ⟨by rw [HV.out]; rfl, hb⟩
  replace hv := Classical.not_not.1 hv
  rw [decide_eq_true hv]
  have HV := Lib.hid hv; clear hv
  have Z0 := Z.cell 0 _ rfl; have Z1 := Z.cell 1 _ rfl; have Zlt := Z.lt
  have Y0 := Y.cell 0 _ rfl; have Y1 := Y.cell 1 _ rfl; have Ylt := Y.lt
  go_wp2_with fail
  refine (rvalid_any B m d B' m' d' f _ hm hm' (HT.out _ hb)).mono ?_; rintro r w2 ⟨rfl, hb2⟩
  (replace hb := hb.trans (hb2.mono hb.size)); replace Z := Z.up hb2; replace Y := Y.up hb2; clear hb2; (try clear Z0); (try clear Z1); (try clear Zlt); (try clear Y0); (try clear Y1); (try clear Ylt)
  by_cases hv : ¬ validE f
  · have HV := Lib.hid (folB_no2 (e := e) hv)
    rw [decide_eq_false hv]
    clear hv
    go_wp2_with fail
    go_ret
    exact ⟨by rw [HV.out]; rfl, hb⟩
  replace hv := Classical.not_not.1 hv
  rw [decide_eq_true hv]
  have HVF := Lib.hid hv; clear hv
  go_wp2_with fail
  go_loopw [5] (fun s wr => ∃ k : Nat, k ≤ n ∧ s = .int .i64 (k : Int) ∧ (∀ x ∈ e.ents.take k, okX f x) ∧ Bx wr w.heap.size [.slice A n c, .slice A' n' c'] ∧ Bx wr (w.heap.size + 1) [.slice B m d, .slice B' m' d'] ∧ Below w.heap.size w wr) (fun s _ => n - (intOf s).toNat)
  case atStart => exact ⟨0, by omega, rfl, by simp, Z, Y, hb⟩
  case round =>
    clear hb Z Y
    obtain ⟨k, hk, rfl, hok, Z, Y, hb⟩ := hrel
    have HOK := Lib.hid hok; clear hok
    have Z0 := Z.cell 0 _ rfl; have Z1 := Z.cell 1 _ rfl; have Zlt := Z.lt
    have Y0 := Y.cell 0 _ rfl; have Y1 := Y.cell 1 _ rfl; have Ylt := Y.lt
    by_cases hlt : k < n
    · obtain ⟨b, off, x, hA, hbb, hx, c0, c1⟩ := (HU.out _ hb).ents.en hlt
      subst hA
      have HX := Lib.hid hx; clear hx
      have HF : Hid (∀ W, Below w.heap.size w W → Calls Tryz.prog 40 #[.agg #[.slice B m d, .slice B' m' d'], .int .i64 x.1] W fun r w' => r = .returned (.int .i64 (find0 f x.1)) ∧ Below W.heap.size W w') := fun W hW => rfind_any B m d B' m' d' f x.1 W hm (HT.out _ hW)
      have HR : Hid (∀ W, Below w.heap.size w W → Calls Tryz.prog 39 #[.slice B' m' d', .int .i64 x.2] W fun r w' => r = .returned (.bool (decide (x.2 ∈ f.ret))) ∧ W = w') := fun W hW => has_any B' m' d' _ _ _ hm' (HT.out _ hW).ret
      go_wp2_with fail
      refine (HF.out _ (by (repeat (first | exact Below.refl _ _ | assumption | refine Below.alloc ?_ (by first | omega | (simp only [World.size_alloc]; omega) | (simp; done) | (simp; omega)) _ | refine Below.setCell ?_ (by first | omega | (simp only [World.size_alloc]; omega) | (simp; done) | (simp; omega)) _ | refine Below.drew ?_ | refine below_drewN ?_ _)))).mono ?_; rintro r w3 ⟨rfl, hb3⟩
      obtain ⟨hs3, hb', X⟩ := step1 hb hb3
      replace Z := Z.up hs3
      replace Y := Y.up hs3
      clear hb hb3 Z0 Z1 Zlt Y0 Y1 Ylt c0 c1 hs3
      generalize wr.heap.size = bx at *
      have hb := hb'
      clear hb'
      have Z0 := Z.cell 0 _ rfl; have Z1 := Z.cell 1 _ rfl; have Zlt := Z.lt
      have Y0 := Y.cell 0 _ rfl; have Y1 := Y.cell 1 _ rfl; have Ylt := Y.lt
      have X0 := X.cell 0 _ rfl; have X1 := X.cell 1 _ rfl; have Xlt := X.lt
      have HD : Hid (okX f x ↔ (¬ (find0 f x.1 ≠ 0 ∧ find0 f x.1 ≠ x.2) ∧ ¬ (find0 f x.1 = 0 ∧ x.2 ∉ f.ret))) := Iff.rfl
      generalize find0 f x.1 = z at *
      by_cases hz : z = 0
      · have h1 : (z == 0) = true := by simpa using hz
        have h2 : (z != 0) = false := by simpa using hz
        cases hm0 : decide (x.2 ∈ f.ret)
        · rw [decide_eq_false_iff_not] at hm0
          have HVV := Lib.hid (folB_ent HV.out HVF.out HX.out fun h => (HD.out.1 h).2 ⟨hz, hm0⟩)
          have HM : Hid (decide (x.2 ∈ f.ret) = false) := decide_eq_false hm0
          clear hm0 hz
          go_wp2_with fail
          refine (HR.out _ hb).mono ?_; rintro r w4 ⟨rfl, rfl⟩
          rw [HM.out]
          go_wp2_with fail
          go_ret
          exact ⟨by rw [HVV.out]; rfl, hb⟩
        · rw [decide_eq_true_iff] at hm0
          have HOX : Hid (okX f x) := HD.out.2 ⟨fun h => h.1 hz, fun h => h.2 hm0⟩
          have HM : Hid (decide (x.2 ∈ f.ret) = true) := decide_eq_true hm0
          clear hm0 hz
          go_wp2_with fail
          refine (HR.out _ hb).mono ?_; rintro r w4 ⟨rfl, rfl⟩
          rw [HM.out]
          go_wp2_with fail
          go_roundw
          case rel => exact ⟨k + 1, by omega, by go_num, all_take HX.out HOK.out HOX.out, Z, Y, hb⟩
          case measure => simp [intOf]; omega
      · have h1 : (z == 0) = false := by simpa using hz
        have h2 : (z != 0) = true := by simpa using hz
        by_cases he : z = x.2
        · have h3 : (z != x.2) = false := by simpa using he
          have HOX : Hid (okX f x) := HD.out.2 ⟨fun h => h.2 he, fun h => hz h.1⟩
          clear he hz
          go_wp2_with fail
          go_roundw
          case rel => exact ⟨k + 1, by omega, by go_num, all_take HX.out HOK.out HOX.out, Z, Y, hb⟩
          case measure => simp [intOf]; omega
        · have h3 : (z != x.2) = true := by simpa using he
          have HVV := Lib.hid (folB_ent HV.out HVF.out HX.out fun h => (HD.out.1 h).1 ⟨hz, he⟩)
          clear he hz
          go_wp2_with fail
          go_ret
          exact ⟨by rw [HVV.out]; rfl, hb⟩
    · obtain rfl : k = n := by omega
      have HALL : Hid (∀ x ∈ e.ents, okX f x) := by
        have h := HOK.out
        rw [List.take_of_length_le (by have := HL.out; omega)] at h
        exact h
      go_wp2_with fail
      go_loopw [8] (fun s wr => ∃ j : Nat, j ≤ n' ∧ s = .int .i64 (j : Int) ∧ (∀ r ∈ e.ret.take j, r ∈ f.ret) ∧ Bx wr w.heap.size [.slice A k c, .slice A' n' c'] ∧ Bx wr (w.heap.size + 1) [.slice B m d, .slice B' m' d'] ∧ Below w.heap.size w wr) (fun s _ => n' - (intOf s).toNat)
      case atStart => exact ⟨0, by omega, rfl, by simp, Z, Y, hb⟩
      case round =>
        clear hb Z Y Z0 Z1 Zlt Y0 Y1 Ylt
        obtain ⟨j, hj, rfl, hok, Z, Y, hb⟩ := hrel
        have HOR := Lib.hid hok; clear hok
        have Z0 := Z.cell 0 _ rfl; have Z1 := Z.cell 1 _ rfl; have Zlt := Z.lt
        have Y0 := Y.cell 0 _ rfl; have Y1 := Y.cell 1 _ rfl; have Ylt := Y.lt
        by_cases hlt2 : j < n'
        · obtain ⟨b, off, x, hA, hbb, hx, c0⟩ := (HU.out _ hb).ret.in_ hlt2
          subst hA
          have HX := Lib.hid hx; clear hx
          have HR : Hid (∀ q, Calls Tryz.prog 39 #[.slice B' m' d', .int .i64 x] (wr.drewN q) fun r w' => r = .returned (.bool (decide (x ∈ f.ret))) ∧ w' = wr.drewN q) := fun q => (has_any B' m' d' _ _ _ hm' (HT.out _ (below_drewN hb q)).ret).mono fun r w' h => ⟨h.1, h.2.symm⟩
          cases hm0 : decide (x ∈ f.ret)
          · rw [hm0] at HR
            rw [decide_eq_false_iff_not] at hm0
            have HVV := Lib.hid (folB_ret HV.out HVF.out HX.out hm0)
            clear hm0
            go_wp2_with fail
            go_quiet ((go_at_call 39; with_reducible refine Calls.quiet_of_same (HR.out _)))
            go_wp2_with fail
            go_ret
            exact ⟨by rw [HVV.out]; rfl, below_drewN hb _⟩
          · rw [hm0] at HR
            rw [decide_eq_true_iff] at hm0
            have HM0 := Lib.hid hm0; clear hm0
            go_wp2_with fail
            go_quiet ((go_at_call 39; with_reducible refine Calls.quiet_of_same (HR.out _)))
            go_wp2_with fail
            go_roundw
            case rel => exact ⟨j + 1, by omega, by go_num, all_take HX.out HOR.out HM0.out, Z.drewN _, Y.drewN _, below_drewN hb _⟩
            case measure => simp [intOf]; omega
        · obtain rfl : j = n' := by omega
          have HVV : Hid (folB e f = true) := by
            have h := HOR.out
            rw [List.take_of_length_le (by have := HL'.out; omega)] at h
            exact folB_yes HV.out HVF.out HALL.out h
          go_wp2_with fail
          go_ret
          exact ⟨by rw [HVV.out]; rfl, hb⟩
end Go.Proofs.YtfanjghfilkhmaaGreatDoor
