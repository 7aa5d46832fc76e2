/- Valid: the reference's (chapter 47). -/
import Derived.Test.YtfanjghfilkhmaaGreatDoorGc
import Derived.Deep.RegionHeld3
set_option linter.unusedSimpArgs false
set_option linter.unusedVariables false
namespace Go.Proofs.YtfanjghfilkhmaaGreatDoor
open Go.RowKit

/-- Two boxes of two cells are kept. -/
theorem keep22 {w0 w w1 : World} {p q : Nat} {a0 a1 b0 b1 : Value} (hp : p < w0.heap.size) (hq : q < w0.heap.size)
    (H : w.cell? ⟨p, 0, none⟩ = some a0 ∧ w.cell? ⟨p, 1, none⟩ = some a1 ∧ w.cell? ⟨q, 0, none⟩ = some b0 ∧ w.cell? ⟨q, 1, none⟩ = some b1 ∧ Below w0.heap.size w0 w) (hb : Below w.heap.size w w1) :
    w1.cell? ⟨p, 0, none⟩ = some a0 ∧ w1.cell? ⟨p, 1, none⟩ = some a1 ∧ w1.cell? ⟨q, 0, none⟩ = some b0 ∧ w1.cell? ⟨q, 1, none⟩ = some b1 ∧ Below w0.heap.size w0 w1 := by
  obtain ⟨x0, x1, x2, x3, xb⟩ := H
  have hs := xb.size
  have g : ∀ b o v, b < w0.heap.size → w.cell? ⟨b, o, none⟩ = some v → w1.cell? ⟨b, o, none⟩ = some v := fun b o v hlt h => (hb.cell (p := ⟨b, o, none⟩) (by show b < _; omega)).trans h
  exact ⟨g _ _ _ hp x0, g _ _ _ hp x1, g _ _ _ hq x2, g _ _ _ hq x3, xb.trans (hb.mono hs)⟩
theorem last5 {a b c d z : Prop} (h : a ∧ b ∧ c ∧ d ∧ z) : z := h.2.2.2.2
def goodE (e : Ed) (x : Int × Int) : Prop := (1 ≤ x.1 ∧ x.1 ≤ 9999) ∧ (1 ≤ x.2 ∧ x.2 ≤ 999) ∧ x.2 ∉ e.ret ∧ ownE e x.2 = some x.1
theorem validR_of {e : Ed} (h1 : ordR e.ents 64 = true) (h2 : e.ret.length ≤ 64) (h3 : ascR e.ret 1 999 = true) : validE e ↔ ∀ x ∈ e.ents, goodE e x := by
  unfold ordR at h1; unfold ascR at h3
  rw [decide_eq_true_iff] at h1 h3
  rw [valid_iff]
  unfold validR keysE goodE
  exact ⟨fun h => h.2.2.2.2, fun h => ⟨h1.1, by omega, h2, h3, h⟩⟩
theorem not_ord {e : Ed} (h : ordR e.ents 64 = false) : ¬ validE e := fun hv => by
  unfold ordR at h
  rw [decide_eq_false_iff_not] at h
  obtain ⟨h1, h2, _⟩ := (valid_iff e).1 hv
  exact h ⟨h1, by omega⟩
theorem not_len {e : Ed} (h : 64 < e.ret.length) : ¬ validE e := fun hv => by
  obtain ⟨_, _, h2, _⟩ := (valid_iff e).1 hv
  omega
theorem not_asc {e : Ed} (h : ascR e.ret 1 999 = false) : ¬ validE e := fun hv => by
  unfold ascR at h
  rw [decide_eq_false_iff_not] at h
  obtain ⟨_, _, _, h2, _⟩ := (valid_iff e).1 hv
  exact h h2
theorem not_good {e : Ed} {k : Nat} {x : Int × Int} (hx : e.ents[k]? = some x) (h : ¬ goodE e x) : ¬ validE e := fun hv => by
  obtain ⟨_, _, _, _, h2⟩ := (valid_iff e).1 hv
  exact h (h2 x (List.mem_of_getElem? hx))
theorem own0_at {e : Ed} {k : Nat} {x : Int × Int} (hx : e.ents[k]? = some x) : own0 e x.2 = x.1 ↔ ownE e x.2 = some x.1 := by
  unfold own0
  cases h : ownE e x.2 with
  | none => exact absurd (List.mem_map_of_mem (f := Prod.snd) (List.mem_of_getElem? hx)) (ownE_none.1 h)
  | some y => simp

set_option maxRecDepth 100000 in
set_option maxHeartbeats 4000000 in
theorem rvalid_any (A : Option Addr) (n c : Nat) (A' : Option Addr) (n' c' : Nat) (e : Ed) (w : World) (hn : n ≤ 1000000) (hn' : n' ≤ 1000000) (hS : EdS w A n A' n' e) :
    Calls Tryz.prog 17 #[.agg #[.slice A n c, .slice A' n' c']] w fun r w' => r = .returned (.bool (decide (validE e))) ∧ Below w.heap.size w w' := by
  have HL := Lib.hid hS.ents.len
  have HL' := Lib.hid hS.ret.len
  have HS := Lib.hid hS; clear hS
  have HU : Hid (∀ W, Below w.heap.size w W → EdS W A n A' n' e) := fun W hW => HS.out.up hW
  go_enter Tryz.func17, Tryz.ntmps17
  go_wp2_with fail
  refine (bord_any A n c _ _ _ hn (HU.out _ (one_alloc _ _)).ents).mono ?_; rintro r w1 ⟨rfl, hb1⟩
  obtain ⟨_, hb, Z⟩ := step1 (Below.refl _ w) hb1
  clear hb1
  cases ho : ordR e.ents 64
  · have HV : Hid (decide (validE e) = false) := decide_eq_false (not_ord ho)
    clear ho
    go_wp2_with fail
    go_ret
    exact ⟨by rw [HV.out]; rfl, hb⟩
  have HO := Lib.hid ho; clear ho
  have Z0 := Z.cell 0 _ rfl; have Z1 := Z.cell 1 _ rfl; have Zlt := Z.lt
  by_cases h64 : 64 < n'
  · have HV : Hid (decide (validE e) = false) := decide_eq_false (not_len (by have := HL'.out; omega))
    go_wp2_with fail
    go_ret
    exact ⟨by rw [HV.out]; rfl, hb⟩
  go_wp2_with fail
  refine (basc_any A' n' c' _ _ _ _ hn' (HU.out _ hb).ret).mono ?_; rintro r w2 ⟨rfl, hb2⟩
  (replace hb := hb.trans (hb2.mono hb.size)); replace Z := Z.up hb2; clear hb2; (try clear Z0); (try clear Z1); (try clear Zlt)
  cases ha : ascR e.ret 1 999
  · have HV : Hid (decide (validE e) = false) := decide_eq_false (not_asc ha)
    clear ha
    go_wp2_with fail
    go_ret
    exact ⟨by rw [HV.out]; rfl, hb⟩
  have HVI := Lib.hid (validR_of HO.out (by have := HL'.out; omega) ha)
  clear ha
  go_wp2_with fail
  go_loopw [3] (fun s wr => ∃ k : Nat, k ≤ n ∧ s = .int .i64 (k : Int) ∧ (∀ y ∈ e.ents.take k, goodE e y) ∧ Bx wr w.heap.size [.slice A n c, .slice A' n' c'] ∧ Below w.heap.size w wr) (fun s _ => n - (intOf s).toNat)
  case atStart => exact ⟨0, by omega, rfl, by simp, Z, hb⟩
  case round =>
    clear hb Z
    obtain ⟨k, hk, rfl, hg, Z, hb⟩ := hrel
    have HG := Lib.hid hg; clear hg
    by_cases hlt : k < n
    · obtain ⟨b, off, x, hA, hbb, hx, c0, c1⟩ := (HU.out _ hb).ents.en hlt
      subst hA
      have HX := Lib.hid hx; clear hx
      have Z0 := Z.cell 0 _ rfl; have Z1 := Z.cell 1 _ rfl; have Zlt := Z.lt
      by_cases h1 : ¬ (1 ≤ x.1 ∧ x.1 ≤ 9999)
      · have HV : Hid (decide (validE e) = false) := decide_eq_false (not_good HX.out fun h => h1 h.1)
        have hd : inR x.1 1 9999 = false := by rw [← Bool.not_eq_true, inR_iff]; exact h1
        clear h1
        go_wp2_with fail
        refine (bin_any _ _ _ _).mono ?_; rintro r w3 ⟨rfl, rfl⟩
        rw [hd]
        go_wp2_with fail
        go_ret
        exact ⟨by rw [HV.out]; rfl, hb.alloc hb.size _⟩
      replace h1 := Classical.not_not.1 h1
      have hd1 : inR x.1 1 9999 = true := (inR_iff _ _ _).2 h1
      have H1 := Lib.hid h1; clear h1
      by_cases h2 : ¬ (1 ≤ x.2 ∧ x.2 ≤ 999)
      · have HV : Hid (decide (validE e) = false) := decide_eq_false (not_good HX.out fun h => h2 h.2.1)
        have hd : inR x.2 1 999 = false := by rw [← Bool.not_eq_true, inR_iff]; exact h2
        clear h2
        go_wp2_with fail
        refine (bin_any _ _ _ _).mono ?_; rintro r w3 ⟨rfl, rfl⟩
        rw [hd1]
        go_wp2_with fail
        refine (bin_any _ _ _ _).mono ?_; rintro r w3 ⟨rfl, rfl⟩
        rw [hd]
        go_wp2_with fail
        go_ret
        exact ⟨by rw [HV.out]; rfl, hb.alloc hb.size _⟩
      replace h2 := Classical.not_not.1 h2
      have hd2 : inR x.2 1 999 = true := (inR_iff _ _ _).2 h2
      have H2 := Lib.hid h2; clear h2
      have HR : Hid (∀ W, Below w.heap.size w W → Calls Tryz.prog 39 #[.slice A' n' c', .int .i64 x.2] W fun r w' => r = .returned (.bool (decide (x.2 ∈ e.ret))) ∧ W = w') := fun W hW => has_any A' n' c' _ _ _ hn' (HU.out _ hW).ret
      cases hm : decide (x.2 ∈ e.ret)
      · rw [decide_eq_false_iff_not] at hm
        have HM := Lib.hid hm
        have HD : Hid (decide (x.2 ∈ e.ret) = false) := decide_eq_false hm
        clear hm
        go_wp2_with fail
        refine (bin_any _ _ _ _).mono ?_; rintro r w3 ⟨rfl, rfl⟩
        rw [hd1]
        go_wp2_with fail
        refine (bin_any _ _ _ _).mono ?_; rintro r w3 ⟨rfl, rfl⟩
        rw [hd2]
        go_wp2_with fail
        refine (HR.out _ (by (repeat (first | exact Below.refl _ _ | assumption | refine Below.alloc ?_ (by first | omega | (simp only [World.size_alloc]; omega) | (simp; done) | (simp; omega)) _ | refine Below.setCell ?_ (by first | omega | (simp only [World.size_alloc]; omega) | (simp; done) | (simp; omega)) _ | refine Below.drew ?_ | refine below_drewN ?_ _)))).mono ?_; rintro r w3 ⟨rfl, rfl⟩
        rw [HD.out]
        go_wp2_with fail
        have X := Bx.new wr [.int .i64 x.1, .int .i64 x.2] 36
        have hbA : Below w.heap.size w (wr.alloc (.cells #[.int .i64 x.1, .int .i64 x.2] 36)) := hb.alloc hb.size _
        replace Z := Z.alloc (.cells #[.int .i64 x.1, .int .i64 x.2] 36)
        have HOW : Hid (∀ W, Below w.heap.size w W → Calls Tryz.prog 38 #[.agg #[.slice (some ⟨b, off, none⟩) n c, .slice A' n' c'], .int .i64 x.2] W fun r w' => r = .returned (.int .i64 (own0 e x.2)) ∧ Below W.heap.size W w') := fun W hW => rowner_any _ n c _ n' c' _ _ _ hn (HU.out _ hW)
        generalize hWX : wr.alloc (.cells #[.int .i64 x.1, .int .i64 x.2] 36) = WX at *
        generalize wr.heap.size = bx at *
        clear hWX c0 c1 Z0 Z1 Zlt hb
        have Z0 := Z.cell 0 _ rfl; have Z1 := Z.cell 1 _ rfl; have Zlt := Z.lt
        have X0 := X.cell 0 _ rfl; have X1 := X.cell 1 _ rfl; have Xlt := X.lt
        go_region_held3 (fun V => V.cell? ⟨w.heap.size, 0, none⟩ = some (.slice (some ⟨b, off, none⟩) n c) ∧ V.cell? ⟨w.heap.size, 1, none⟩ = some (.slice A' n' c') ∧ V.cell? ⟨bx, 0, none⟩ = some (.int .i64 x.1) ∧ V.cell? ⟨bx, 1, none⟩ = some (.int .i64 x.2) ∧ Below WX.heap.size WX V)
          (first | exact ⟨Z0, Z1, X0, X1, Below.drew (Below.refl _ _)⟩ | exact keep22 Zlt Xlt (by assumption) (by assumption) | go_keep)
          ((go_at_call 38; refine (HOW.out _ (below_keep' hbA (last5 (by assumption)))).mono ?_; rintro r w3 ⟨rfl, hb3⟩))
        rename_i hH
        have hb4 : Below w.heap.size w w3 := hbA.trans ((last5 hH).mono hbA.size)
        replace Z := Z.up (last5 hH)
        clear hH hb3
        by_cases ho : own0 e x.2 = x.1
        · have HGX : Hid (goodE e x) := ⟨H1.out, H2.out, HM.out, (own0_at HX.out).1 ho⟩
          have hne : (own0 e x.2 != x.1) = false := by simpa using ho
          clear ho
          go_wp2_with fail
          go_roundw
          case rel => exact ⟨k + 1, by omega, by go_num, all_take HX.out HG.out HGX.out, Z, hb4⟩
          case measure => simp [intOf]; omega
        · have HV : Hid (decide (validE e) = false) := decide_eq_false (not_good HX.out fun h => ho ((own0_at HX.out).2 h.2.2.2))
          have hne : (own0 e x.2 != x.1) = true := by simpa using ho
          clear ho
          go_wp2_with fail
          go_ret
          exact ⟨by rw [HV.out]; rfl, hb4⟩
      · rw [decide_eq_true_iff] at hm
        have HV : Hid (decide (validE e) = false) := decide_eq_false (not_good HX.out fun h => h.2.2.1 hm)
        have HD : Hid (decide (x.2 ∈ e.ret) = true) := decide_eq_true hm
        clear hm
        go_wp2_with fail
        refine (bin_any _ _ _ _).mono ?_; rintro r w3 ⟨rfl, rfl⟩
        rw [hd1]
        go_wp2_with fail
        refine (bin_any _ _ _ _).mono ?_; rintro r w3 ⟨rfl, rfl⟩
        rw [hd2]
        go_wp2_with fail
        refine (HR.out _ (by (repeat (first | exact Below.refl _ _ | assumption | refine Below.alloc ?_ (by first | omega | (simp only [World.size_alloc]; omega) | (simp; done) | (simp; omega)) _ | refine Below.setCell ?_ (by first | omega | (simp only [World.size_alloc]; omega) | (simp; done) | (simp; omega)) _ | refine Below.drew ?_ | refine below_drewN ?_ _)))).mono ?_; rintro r w3 ⟨rfl, rfl⟩
        rw [HD.out]
        go_wp2_with fail
        go_ret
        exact ⟨by rw [HV.out]; rfl, hb.alloc hb.size _⟩
    · obtain rfl : k = n := by omega
      have HV : Hid (decide (validE e) = true) := by
        have h := HG.out
        rw [List.take_of_length_le (by have := HL.out; omega)] at h
        exact decide_eq_true (HVI.out.2 h)
      have Z0 := Z.cell 0 _ rfl; have Z1 := Z.cell 1 _ rfl; have Zlt := Z.lt
      go_wp2_with fail
      go_ret
      exact ⟨by rw [HV.out]; rfl, hb⟩
end Go.Proofs.YtfanjghfilkhmaaGreatDoor
