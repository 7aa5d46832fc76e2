/- ProvenancePedigrees: the law's walk (chapter 46). -/
import Derived.Test.YtccmchmemafjdaaGreatDoorQc
import Derived.Test.YtccmchmemafjdaaGreatDoorPs
set_option linter.unusedSimpArgs false
set_option linter.unusedVariables false
namespace Go.Proofs.YtccmchmemafjdaaGreatDoor
open Go.RowKit

/-- Whoever is in a group has it for his own alone. -/
theorem grps_one {ls : List Lst} {z z' : List Int} {a : Int} (hz : z ∈ grpsL ls) (hz' : z' ∈ grpsL ls) (ha : a ∈ z) (ha' : a ∈ z') : z = z' := by
  unfold grpsL groupsOf at hz hz'
  obtain ⟨r, _, rfl⟩ := List.mem_map.1 hz
  obtain ⟨r', _, rfl⟩ := List.mem_map.1 hz'
  have h1 := (mem_grp.1 ha).2
  have h2 := (mem_grp.1 ha').2
  rw [← h1, h2]
theorem grps_find {ls : List Lst} {z : List Int} {a : Int} (hz : z ∈ grpsL ls) (ha : a ∈ z) : (grpsL ls).find? (fun z => z.contains a) = some z := by
  cases h : (grpsL ls).find? (fun z => z.contains a) with
  | none =>
    rw [List.find?_eq_none] at h
    exact absurd (List.contains_iff_mem.2 ha) (h z hz)
  | some z' =>
    have h1 := List.mem_of_find?_eq_some h
    have h2 := List.find?_some h
    rw [grps_one h1 hz (List.contains_iff_mem.1 h2) ha]
theorem ped_in {ls : List Lst} (h0 : chkL ls = 0) {z : List Int} {a : Int} (hz : z ∈ grpsL ls) (ha : a ∈ z) : pedE ls a = 0 ∧ pedS ls a = salesOf ls z := by
  unfold pedE pedS
  have h2 : ((grpsL ls).any fun z => z.contains a) = true := List.any_eq_true.2 ⟨z, hz, List.contains_iff_mem.2 ha⟩
  rw [if_pos h0, if_pos h0, grps_find hz ha, h2]
  exact ⟨rfl, rfl⟩
theorem pedE_zero {ls : List Lst} {id : Int} (h : pedE ls id = 0) : chkL ls = 0 := by
  unfold pedE at h
  by_cases h0 : chkL ls = 0
  · exact h0
  · rw [if_neg h0] at h; exact h
set_option maxRecDepth 100000 in
set_option maxHeartbeats 8000000 in
theorem pedigrees_law (A : Option Addr) (n c : Nat) (ls : List Lst) (id : Int) (w : World) (hE : Env w) (hS : LsS w A n ls) :
    Calls Tryz.prog 7 #[.slice A n c, .int .i64 id] w fun r w' => r = .returned (.bool true) ∧ Below w.heap.size w w' := by
  have HEN : Hid (∀ W, Below w.heap.size w W → Env W) := fun W hW => hE.step hW
  have HU : Hid (∀ W, Below w.heap.size w W → LsS W A n ls) := fun W hW => hS.up hW
  clear hE hS
  go_enter Tryz.func7, Tryz.ntmps7
  go_wp2_with fail
  refine (awake_any _ (HEN.out _ (Below.refl _ _))).mono ?_; rintro r w1 ⟨rfl, hb⟩
  go_wp2_with fail
  refine (few_any A n c _).mono ?_; rintro r w2 ⟨rfl, hw2⟩
  subst w2
  by_cases hf : n ≤ 12 ∨ n = 65
  rotate_left 1
  · rw [decide_eq_false hf]
    clear hf
    go_wp2_with fail
    refine (awake_any _ (HEN.out _ hb)).mono ?_; rintro r w3 ⟨rfl, hb3⟩
    (replace hb := hb.trans (hb3.mono hb.size)); clear hb3
    go_wp2_with fail
    go_ret
    exact ⟨rfl, hb⟩
  rw [decide_eq_true hf]
  have hn : n ≤ 1000000 := by omega
  clear hf
  have HP1 : Hid (∀ W, Below w.heap.size w W → Calls Tryz.prog 27 #[.slice A n c, .int .i64 id] W fun e w' => SalesOut (pedS ls id) (pedE ls id) e w' ∧ Below W.heap.size W w') := fun W hW => ppedigree_any A n c ls id W hn (HU.out W hW)
  have HP2 : Hid (∀ W, Below w.heap.size w W → Calls Tryz.prog 28 #[.slice A n c, .int .i64 id] W fun e w' => SalesOut (pedS ls id) (pedE ls id) e w' ∧ Below W.heap.size W w') := fun W hW => rpedigree_any A n c ls id W hn (HU.out W hW)
  unfold SalesOut at HP1 HP2
  by_cases h0 : ¬ pedE ls id = 0
  · have hne : (pedE ls id != 0) = true := by simpa using h0
    clear h0
    generalize pedE ls id = pe at *
    generalize pedS ls id = ps at *
    go_wp2_with fail
    refine (HP1.out _ hb).mono ?_; rintro r w3 ⟨⟨A2, n2, c2, rfl, hn2, hL, _⟩, hb3⟩
    (replace hb := hb.trans (hb3.mono hb.size)); clear hb3
    go_wp2_with fail
    refine (HP2.out _ hb).mono ?_; rintro r w4 ⟨⟨A3, n3, c3, rfl, hn3, hL3, _⟩, hb4⟩
    (replace hb := hb.trans (hb4.mono hb.size)); replace hL := hL.up hb4; clear hb4
    go_wp2_with fail
    refine (sales_any A2 n2 c2 ps A3 n3 c3 ps _ hn2 hn3 hL hL3).mono ?_; rintro r w5 ⟨rfl, hb5⟩
    rw [decide_eq_true (rfl : ps = ps)]
    (replace hb := hb.trans (hb5.mono hb.size)); replace hL := hL.up hb5; replace hL3 := hL3.up hb5; clear hb5
    go_wp2_with fail
    refine (sales_any A2 n2 c2 ps A3 n3 c3 ps _ hn2 hn3 hL hL3).mono ?_; rintro r w6 ⟨rfl, hb6⟩
    rw [decide_eq_true (rfl : ps = ps)]
    (replace hb := hb.trans (hb6.mono hb.size)); clear hb6
    go_wp2_with fail
    go_ret
    exact ⟨by simp, hb⟩
  replace h0 := Classical.not_not.1 h0
  have hc := pedE_zero h0
  have HG : Hid (∀ W, Below w.heap.size w W → Calls Tryz.prog 20 #[.slice A n c] W fun e w' => (∃ A2 n2 c2, e = .returned (.tuple #[.slice A2 n2 c2, .int .i64 0]) ∧ n2 ≤ 1000000 ∧ LoS w' A2 n2 (grpsL ls)) ∧ Below W.heap.size W w') := fun W hW => by
    have h := rgroups_any A n c ls W hn (HU.out W hW)
    rw [hc] at h
    refine h.mono ?_
    rintro e w' ⟨⟨A2, n2, c2, h1, h2, h3, _⟩, h4⟩
    rw [if_pos rfl] at h3
    exact ⟨⟨A2, n2, c2, h1, h2, h3⟩, h4⟩
  have HPA : Hid (∀ z ∈ grpsL ls, id ∈ z → ∀ a ∈ z, ∀ W, Below w.heap.size w W → Calls Tryz.prog 27 #[.slice A n c, .int .i64 a] W fun e w' => (∃ A2 n2 c2, e = .returned (.tuple #[.slice A2 n2 c2, .int .i64 0]) ∧ n2 ≤ 1000000 ∧ SaS w' A2 n2 (pedS ls id)) ∧ Below W.heap.size W w') := fun z hz hi a ha W hW => by
    have h := ppedigree_any A n c ls a W hn (HU.out W hW)
    obtain ⟨e1, e2⟩ := ped_in hc hz ha
    obtain ⟨_, e3⟩ := ped_in hc hz hi
    rw [e1, e2, ← e3] at h
    refine h.mono ?_
    rintro e w' ⟨⟨A2, n2, c2, h1, h2, h3, _⟩, h4⟩
    exact ⟨⟨A2, n2, c2, h1, h2, h3⟩, h4⟩
  rw [h0] at HP1 HP2
  clear h0 hc
  generalize pedS ls id = ps at *
  go_wp2_with fail
  refine (HP1.out _ hb).mono ?_; rintro r w3 ⟨⟨A2, n2, c2, rfl, hn2, hL, _⟩, hb3⟩
  (replace hb := hb.trans (hb3.mono hb.size)); clear hb3
  go_wp2_with fail
  refine (HP2.out _ hb).mono ?_; rintro r w4 ⟨⟨A3, n3, c3, rfl, hn3, hL3, _⟩, hb4⟩
  (replace hb := hb.trans (hb4.mono hb.size)); replace hL := hL.up hb4; clear hb4
  go_wp2_with fail
  refine (sales_any A2 n2 c2 ps A3 n3 c3 ps _ hn2 hn3 hL hL3).mono ?_; rintro r w5 ⟨rfl, hb5⟩
  rw [decide_eq_true (rfl : ps = ps)]
  (replace hb := hb.trans (hb5.mono hb.size)); replace hL := hL.up hb5; clear hb5
  clear hL3
  go_wp2_with fail
  refine (HG.out _ hb).mono ?_; rintro r w6 ⟨⟨A4, n4, c4, rfl, hn4, hL4⟩, hb6⟩
  (replace hb := hb.trans (hb6.mono hb.size)); replace hL := hL.up hb6; clear hb6
  have HL := Lib.hid hL
  have HL4 := Lib.hid hL4
  have HB := Lib.hid hb
  clear hL hL4 hb HP1 HP2 HG
  go_wp2_with fail
  go_loopw [11] (fun t wr => ∃ i : Nat, i ≤ n4 ∧ t = .int .i64 (i : Int) ∧ Below w6.heap.size w6 wr) (fun t _ => n4 - (intOf t).toNat)
  case atStart => exact ⟨0, by omega, rfl, Below.refl _ _⟩
  case round =>
    obtain ⟨i, hi, rfl, hbi⟩ := hrel
    by_cases hlt : i < n4
    · obtain ⟨b, off, z, a, m, cz, rfl, hbb, hz, c0, hm, hSz⟩ := HL4.out.at_ hlt
      have HZM := Lib.hid (List.mem_of_getElem? hz)
      have HSZ := Lib.hid hSz
      have hin4 : (i : Int) < (n4 : Int) := by omega
      have hm9 := hm.1
      clear hz hSz hm
      go_wp2_with fail
      go_loopw [12] (fun t wr => ∃ k : Nat, k ≤ m ∧ t = .int .i64 (k : Int) ∧ Below w6.heap.size w6 wr) (fun t _ => m - (intOf t).toNat)
      case atStart => exact ⟨0, by omega, rfl, hbi⟩
      case round =>
        clear hbi
        obtain ⟨k, hk, rfl, hbk⟩ := hrel
        have c0' := (hbk.cell (p := ⟨b, off + i, none⟩) hbb).trans c0
        by_cases hlt2 : k < m
        · have HCO := Lib.hid (bhas_any a m cz z id _ hm9 (Sl.up HSZ.out hbk (Nat.le_refl _) (Nat.le_refl _)))
          cases hcz : z.contains id
          · rw [hcz] at HCO
            clear hcz
            go_wp2_with fail
            go_fit HCO.out
            rintro e w7 ⟨rfl, hb7⟩
            go_wp2_with fail
            exact ⟨⟨i + 1, by omega, by go_num, below_keep' hbk hb7⟩, by simp [intOf]; omega⟩
          · rw [hcz] at HCO
            have HID := Lib.hid (List.contains_iff_mem.1 hcz)
            clear hcz
            go_wp2_with fail
            go_fit HCO.out
            rintro e w7 ⟨rfl, hb7⟩
            have hbk7 := below_keep' hbk hb7
            have c0'' := (hbk7.cell (p := ⟨b, off + i, none⟩) hbb).trans c0
            obtain ⟨bz, oz, x, rfl, hbz, hx, g0⟩ := (Sl.up HSZ.out hbk7 (Nat.le_refl _) (Nat.le_refl _)).in_ hlt2
            have HPX := Lib.hid (HPA.out z HZM.out HID.out x (List.mem_of_getElem? hx) w7 (below_keep' HB.out hbk7))
            have hkm : (k : Int) < (m : Int) := by omega
            clear hx c0'
            go_wp2_with fail
            go_fit HPX.out
            rintro e w8 ⟨⟨A5, n5, c5, rfl, hn5, hS5⟩, hb8⟩
            have hbk8 := below_keep' hbk7 hb8
            have HSS := Lib.hid (sales_any A5 n5 c5 ps A2 n2 c2 ps w8 hn5 hn2 hS5 (HL.out.up hbk8))
            rw [decide_eq_true (rfl : ps = ps)] at HSS
            clear hS5
            go_wp2_with fail
            go_fit HSS.out
            rintro e w9 ⟨rfl, hb9⟩
            go_wp2_with fail
            exact ⟨⟨k + 1, by omega, by go_num, below_keep' hbk8 hb9⟩, by simp [intOf]; omega⟩
        · obtain rfl : k = m := by omega
          go_wp2_with fail
          exact ⟨⟨i + 1, by omega, by go_num, hbk⟩, by simp [intOf]; omega⟩
    · obtain rfl : i = n4 := by omega
      go_wp2_with fail
      go_ret
      exact ⟨rfl, below_keep' HB.out hbi⟩
end Go.Proofs.YtccmchmemafjdaaGreatDoor
