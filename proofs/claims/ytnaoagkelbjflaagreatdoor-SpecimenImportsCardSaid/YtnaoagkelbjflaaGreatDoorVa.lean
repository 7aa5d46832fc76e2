/- Sort: the reference's (by insertion). -/
import Derived.Test.YtnaoagkelbjflaaGreatDoorSz
import Derived.RegionTactic
import Derived.BigRegion
set_option linter.unusedSimpArgs false
set_option linter.unusedVariables false
namespace Go.Proofs.YtnaoagkelbjflaaGreatDoor
open Go.RowKit Go.Sort Go.Lib

abbrev ltS' : Spm → Spm → Bool := ltOf cfS
abbrev swS (w : World) (g m : Nat) (d : Array Spm) : World := sortWorldK encS 7 w g 0 m d #[]
theorem swS_drewN (w : World) (g m n : Nat) (d : Array Spm) : (swS w g m d).drewN n = swS w g (m + n) d := by
  have := sortWorldK_grown_c encS 7 w g 0 m n d #[] #[]
  simpa [grow_empty] using this
theorem swS_cells {w : World} {g m : Nat} {d dk : Array Spm} (hH : HoldsK encS 7 w g 0 d) (hg : g < w.heap.size) (hs : dk.size = d.size) {i : Nat} (hi : i < dk.size) {c : Nat} {v : Value} (hc : (encS dk[i]!)[c]? = some v) :
    (swS w g m dk).cell? ⟨g, i * 7 + c, none⟩ = some v ∧ (swS w g m dk).frozen? ⟨g, i * 7 + c, none⟩ = false := by
  have h := holdsK_sortWorldK_c encS 7 w g 0 d dk m #[] hH hg hs
  have hc7 : c < 7 := by have := (List.getElem?_eq_some_iff.1 hc).1; rwa [encS_len] at this
  have h1 := HoldsK.cells h encS_len hi c v hc
  have h2 := (h.cell hi hc7).2
  rw [Go.WideShapes.add_plain, Nat.zero_add] at h1
  refine ⟨h1, ?_⟩
  simpa using h2
theorem swS_swp {w : World} {g : Nat} (m : Nat) (dk : Array Spm) (hg : g < w.heap.size) (i j : Nat) (hi : i < dk.size) (hj : j < dk.size) :
    (((swS w g m dk).drew.setCells g (i * 7) (encS dk[j]!)).setCells g (j * 7) (encS dk[i]!)) = swS w g (m + 1) (swp dk i j) := by
  have := sortWorldK_swp_c encS 7 w g 0 encS_len m dk #[] hg i j hi hj
  simpa using this
theorem swS_zero {w : World} {g : Nat} {d : Array Spm} (hH : HoldsK encS 7 w g 0 d) : w = swS w g 0 d := by
  unfold swS sortWorldK; rw [grow_empty]; exact (putRowK_self encS 7 w g 0 d hH).symm

theorem ltS'_iff (x y : Spm) : ltS' x y = decide (x.id < y.id) := ltCfS x y
theorem ins_sorted (xs : List Spm) : (insertionSort ltS' xs.toArray 0 xs.length).toList = sortS xs ∨ ¬ (idsOf xs).Nodup := by
  by_cases hn : (idsOf xs).Nodup
  · refine .inl ?_
    obtain ⟨hp, hs⟩ := insertionSort_holds (lt := ltS') swoS xs.toArray 0 xs.length (Nat.zero_le _) (by simp)
    have hsz : (insertionSort ltS' xs.toArray 0 xs.length).size = xs.length := by rw [hp.1]; simp
    generalize insertionSort ltS' xs.toArray 0 xs.length = d' at *
    refine sort_of ?_ ?_ hn
    · have := hp.2.2
      rw [show d'.extract 0 xs.length = d' from by rw [← hsz]; simp, show xs.toArray.extract 0 xs.length = xs.toArray from by simp] at this
      simpa using this
    · rw [← hsz] at hs
      refine sortedIn_pairwise hs ?_
      intro x y hxy
      rw [ltS'_iff] at hxy
      simpa using hxy
  · exact .inr hn

set_option maxRecDepth 100000 in
set_option maxHeartbeats 4000000 in
theorem rsort_any (A : Option Addr) (len cap : Nat) (xs : List Spm) (w : World) (hlen : len ≤ 1000000) (hS : Sl w 0 w.heap.size 7 encS A len xs) :
    Calls Tryz.prog 32 #[.slice A len cap] w (ListOut w (srtL xs) (chk xs)) := by
  have HS := Lib.hid hS; clear hS
  obtain ⟨i0, hi, hz0, hz1, hz2⟩ := info_parts Tryz.infoS
  go_enter Tryz.func32, Tryz.ntmps32
  go_wp2_with fail
  refine (rcheck_any A len cap xs _ hlen HS.out).mono ?_; rintro e w1 ⟨rfl, hb⟩
  by_cases h0 : ¬ chk xs = 0
  · have hd : (chk xs != 0) = true := by simpa using h0
    have HL : Hid (srtL xs = []) := by show _ = _; unfold srtL; rw [if_neg h0]
    obtain ⟨c, HC⟩ : ∃ c, Hid (chk xs = c) := ⟨chk xs, rfl⟩
    rw [HC.out] at hd ⊢
    clear h0
    go_wp2_with fail
    go_ret2
    exact ⟨⟨none, 0, 0, by rw [HC.out]; rfl, by rw [HL.out]; exact Sl.nil⟩, hb⟩
  replace h0 := Classical.not_not.1 h0
  have HA := Lib.hid h0
  have HN : Hid ((idsOf xs).Nodup) := ((chk_zero xs).1 h0).2.2
  have HL : Hid (srtL xs = sortS xs) := by show _ = _; unfold srtL; rw [if_pos h0]
  have hl64 : xs.length ≤ 64 := chk_len h0
  rw [h0]
  clear h0
  have HL2 : Hid (xs.length = len) := HS.out.len
  have hl2 : len ≤ 64 := by have := HL2.out; omega
  have hown0 : (w1.alloc (.cells #[] 23)).ownsRow w1.heap.size 23 7 (.slice (some ⟨w1.heap.size, 0, none⟩) 0 0) 0 [] := World.ownsRow_lit w1 #[] 0 (Nat.le_refl _) (by unfold maxLen; omega) rfl
  have HO := Lib.hid hown0; clear hown0
  have hS1 : Sl (w1.alloc (.cells #[] 23)) 0 w.heap.size 7 encS A len xs := (HS.out.below hb (Nat.le_refl _)).below (one_alloc _ _) (by have := hb.size; omega)
  have HS1 := Lib.hid hS1; clear hS1
  go_wp2_with (at_builtin; refine wpList_append_sl _ rfl _ _ 31 rfl w1.heap.size 23 i0 (.agg #[.int .i64 0, .int .i64 0, .int .i64 0, .int .i64 0, .int .i64 0, .int .i64 0, .int .i64 0]) 7 56 encS_len oneS Tryz.underlying31 hi hz0 hz1 hz2 rfl (by decide) _ _ _ rfl HO.out cap rfl HS1.out ?c3 ?c4 ?c5 ?_)
  case c3 => unfold maxLen; omega
  case c4 => omega
  case c5 => simp
  intro v' w3 hown' hgrow
  have hb1 : Below w1.heap.size w1 w3 := Below.grown (one_alloc _ _) hgrow (by simp) (fun g hg => by simp [Value.ownBlock] at hg; omega)
  have hown : w3.ownsRow w1.heap.size 23 7 v' xs.length (xs.flatMap encS) := by have := HL2.out; simpa [this] using hown'
  clear hown' hgrow
  have HB3 : Hid (Below w.heap.size w w3) := hb.trans (hb1.mono hb.size)
  have hw1 : w.heap.size ≤ w1.heap.size := hb.size
  clear hb hb1
  rcases List.eq_nil_or_concat xs with hx | ⟨xs', x', hx⟩
  · subst hx
    obtain ⟨A0, c0, rfl, _⟩ := own_form hown
    simp only [List.length_nil] at hown ⊢
    have HSR : Hid (sortS [] = []) := List.eq_nil_of_length_eq_zero (by rw [sortS_len]; rfl)
    have HF : Hid (Sl w3 w1.heap.size w3.heap.size 7 encS A0 0 []) := ⟨rfl, fun h => absurd h (by omega)⟩
    go_wp2_with fail
    go_loopw [6] (fun vi wr => vi = .int .i64 1 ∧ wr = w3) (fun _ _ => 0)
    case atStart => exact ⟨rfl, rfl⟩
    case round =>
      obtain ⟨rfl, rfl⟩ := hrel
      go_wp2_with fail
      go_ret2
      exact ⟨⟨A0, 0, c0, by rw [HA.out]; rfl, by rw [HL.out, HSR.out]; exact HF.out.any.less (Nat.le_refl _) |> fun h => ⟨rfl, fun h => absurd h (by omega)⟩⟩, HB3.out⟩
  · obtain ⟨nn, hnn⟩ : ∃ nn, xs.length = nn + 1 := ⟨xs'.length, by rw [hx]; simp⟩
    clear hx
    rw [hnn] at hown
    obtain ⟨g, cg, hv⟩ := ownsRow_succ hown
    subst hv
    have hgl := hown.lt g rfl
    have HH : Hid (HoldsK encS 7 w3 g 0 xs.toArray) := holdsK_of_own encS_len hown hnn
    have HOW := Lib.hid hown; clear hown
    have hg3 := hgl.2
    have hg1 := hgl.1
    clear hgl
    have HNN := Lib.hid hnn; clear hnn
    have hn64 : nn + 1 ≤ 64 := by have := HNN.out; omega
    obtain ⟨d, HD⟩ : ∃ d, Hid (xs.toArray = d) := ⟨_, rfl⟩
    rw [HD.out] at HH
    have HDS : Hid (d.size = nn + 1) := by show _ = _; rw [← HD.out]; simpa using HNN.out
    have HW0 : Hid (w3 = swS w3 g 0 d) := swS_zero HH.out
    go_wp2_with fail
    go_loopw [6] (fun vi wr => ∃ (i n : Nat) (dk : Array Spm), vi = .int .i64 (i : Int) ∧ 1 ≤ i ∧ i ≤ nn + 1 ∧ dk.size = nn + 1 ∧ wr = swS w3 g n dk ∧ Hid (insOuter ltS' 0 (nn + 1) i dk = insOuter ltS' 0 (nn + 1) 1 d)) (fun vi _ => nn + 1 - (intOf vi).toNat)
    case atStart => exact ⟨1, 0, d, rfl, by omega, by omega, HDS.out, HW0.out, rfl⟩
    case round =>
      obtain ⟨i, n, dk, rfl, hi1, hin, hsk, hwr, HO⟩ := hrel
      by_cases hlt : i < nn + 1
      · have hltz : (i : Int) < (nn : Int) + 1 := by omega
        have HWR := Lib.hid hwr; clear hwr
        go_wp2_with fail
        go_loopw [7] (fun vj wr => ∃ (j m : Nat) (dj : Array Spm), vj = .int .i64 (j : Int) ∧ j ≤ i ∧ dj.size = nn + 1 ∧ wr = swS w3 g m dj ∧ Hid (insInner ltS' 0 j dj = insInner ltS' 0 i dk)) (fun vj _ => (intOf vj).toNat)
        case atStart => exact ⟨i, n, dk, rfl, Nat.le_refl _, hsk, HWR.out, rfl⟩
        case round =>
          obtain ⟨j, m, dj, rfl, hji, hsj, hwr, HI⟩ := hrel
          have HDJ : Hid (∀ m, ∀ p, p < dj.size → ∀ c v, (encS dj[p]!)[c]? = some v → (swS w3 g m dj).cell? ⟨g, p * 7 + c, none⟩ = some v ∧ (swS w3 g m dj).frozen? ⟨g, p * 7 + c, none⟩ = false) := fun m p hp c v hc => swS_cells HH.out hg3 (hsj.trans HDS.out.symm) hp hc
          have OUT : Hid ((j ≤ 0 ∨ ltS' dj[j]! dj[j - 1]! = false) → Hid (insOuter ltS' 0 (nn + 1) (i + 1) dj = insOuter ltS' 0 (nn + 1) 1 d)) := fun hs => by
            show _ = _
            rw [← HO.out, insOuter_go _ _ _ _ _ hlt, ← HI.out, insInner_stop _ _ _ _ hs]
          by_cases hj0 : j = 0
          · subst hj0
            have HWR2 := Lib.hid hwr; clear hwr
            go_wp2_with fail
            go_quiet (fail)
            go_wp2_with fail
            go_roundw
            case rel => exact ⟨i + 1, m + nq, dj, by go_num, by omega, by omega, hsj, by rw [HWR2.out, swS_drewN], OUT.out (.inl (by omega))⟩
            case measure => simp [intOf]; omega
          · obtain ⟨jp, rfl⟩ : ∃ jp, j = jp + 1 := ⟨j - 1, by omega⟩
            obtain ⟨xj, hxj⟩ : ∃ x, dj[jp + 1]! = x := ⟨_, rfl⟩
            obtain ⟨xp, hxp⟩ : ∃ x, dj[jp]! = x := ⟨_, rfl⟩
            have hwp : IntKind.i64.wrap (jp : Int) = (jp : Int) := by rw [IntKind.wrap_i64]; omega
            have jz : (jp : Int) + 1 < (nn : Int) + 1 := by omega
            have jz1 : (jp : Int) < (nn : Int) + 1 := by omega
            have z0 : (0 : Int) ≤ (jp : Int) + 1 := by omega
            have z1 : (0 : Int) ≤ (jp : Int) := by omega
            have z2 : (0 : Int) < (jp : Int) + 1 := by omega
            have e0 : ((jp : Int) + 1).toNat = jp + 1 := by omega
            obtain ⟨c0, cf0⟩ : wr.cell? ⟨g, (jp + 1) * 7, none⟩ = some (.int .i64 xj.id) ∧ wr.frozen? ⟨g, (jp + 1) * 7, none⟩ = false := by rw [hwr]; exact HDJ.out m (jp + 1) (by omega) 0 _ (by rw [hxj]; rfl)
            obtain ⟨p0, pf0⟩ : wr.cell? ⟨g, jp * 7, none⟩ = some (.int .i64 xp.id) ∧ wr.frozen? ⟨g, jp * 7, none⟩ = false := by rw [hwr]; exact HDJ.out m jp (by omega) 0 _ (by rw [hxp]; rfl)
            obtain ⟨c1, cf1⟩ : wr.cell? ⟨g, (jp + 1) * 7 + 1, none⟩ = some (.int .i64 xj.obv) ∧ wr.frozen? ⟨g, (jp + 1) * 7 + 1, none⟩ = false := by rw [hwr]; exact HDJ.out m (jp + 1) (by omega) 1 _ (by rw [hxj]; rfl)
            obtain ⟨p1, pf1⟩ : wr.cell? ⟨g, jp * 7 + 1, none⟩ = some (.int .i64 xp.obv) ∧ wr.frozen? ⟨g, jp * 7 + 1, none⟩ = false := by rw [hwr]; exact HDJ.out m jp (by omega) 1 _ (by rw [hxp]; rfl)
            obtain ⟨c2, cf2⟩ : wr.cell? ⟨g, (jp + 1) * 7 + 2, none⟩ = some (.int .i64 xj.rev) ∧ wr.frozen? ⟨g, (jp + 1) * 7 + 2, none⟩ = false := by rw [hwr]; exact HDJ.out m (jp + 1) (by omega) 2 _ (by rw [hxj]; rfl)
            obtain ⟨p2, pf2⟩ : wr.cell? ⟨g, jp * 7 + 2, none⟩ = some (.int .i64 xp.rev) ∧ wr.frozen? ⟨g, jp * 7 + 2, none⟩ = false := by rw [hwr]; exact HDJ.out m jp (by omega) 2 _ (by rw [hxp]; rfl)
            obtain ⟨c3, cf3⟩ : wr.cell? ⟨g, (jp + 1) * 7 + 3, none⟩ = some (.int .i64 xj.os) ∧ wr.frozen? ⟨g, (jp + 1) * 7 + 3, none⟩ = false := by rw [hwr]; exact HDJ.out m (jp + 1) (by omega) 3 _ (by rw [hxj]; rfl)
            obtain ⟨p3, pf3⟩ : wr.cell? ⟨g, jp * 7 + 3, none⟩ = some (.int .i64 xp.os) ∧ wr.frozen? ⟨g, jp * 7 + 3, none⟩ = false := by rw [hwr]; exact HDJ.out m jp (by omega) 3 _ (by rw [hxp]; rfl)
            obtain ⟨c4, cf4⟩ : wr.cell? ⟨g, (jp + 1) * 7 + 4, none⟩ = some (.int .i64 xj.rs) ∧ wr.frozen? ⟨g, (jp + 1) * 7 + 4, none⟩ = false := by rw [hwr]; exact HDJ.out m (jp + 1) (by omega) 4 _ (by rw [hxj]; rfl)
            obtain ⟨p4, pf4⟩ : wr.cell? ⟨g, jp * 7 + 4, none⟩ = some (.int .i64 xp.rs) ∧ wr.frozen? ⟨g, jp * 7 + 4, none⟩ = false := by rw [hwr]; exact HDJ.out m jp (by omega) 4 _ (by rw [hxp]; rfl)
            obtain ⟨c5, cf5⟩ : wr.cell? ⟨g, (jp + 1) * 7 + 5, none⟩ = some (.int .i64 xj.ax) ∧ wr.frozen? ⟨g, (jp + 1) * 7 + 5, none⟩ = false := by rw [hwr]; exact HDJ.out m (jp + 1) (by omega) 5 _ (by rw [hxj]; rfl)
            obtain ⟨p5, pf5⟩ : wr.cell? ⟨g, jp * 7 + 5, none⟩ = some (.int .i64 xp.ax) ∧ wr.frozen? ⟨g, jp * 7 + 5, none⟩ = false := by rw [hwr]; exact HDJ.out m jp (by omega) 5 _ (by rw [hxp]; rfl)
            obtain ⟨c6, cf6⟩ : wr.cell? ⟨g, (jp + 1) * 7 + 6, none⟩ = some (.int .i64 xj.wt) ∧ wr.frozen? ⟨g, (jp + 1) * 7 + 6, none⟩ = false := by rw [hwr]; exact HDJ.out m (jp + 1) (by omega) 6 _ (by rw [hxj]; rfl)
            obtain ⟨p6, pf6⟩ : wr.cell? ⟨g, jp * 7 + 6, none⟩ = some (.int .i64 xp.wt) ∧ wr.frozen? ⟨g, jp * 7 + 6, none⟩ = false := by rw [hwr]; exact HDJ.out m jp (by omega) 6 _ (by rw [hxp]; rfl)
            have HXJ := Lib.hid hxj; have HXP := Lib.hid hxp; clear hxj hxp
            have HWR2 := Lib.hid hwr; clear hwr
            by_cases hlv : xj.id < xp.id
            · go_wp2_with fail
              go_quiet (fail)
              go_wp2_with fail
              have q0 : ¬ (jp + 1) * 7 = jp * 7 := by omega
              have q0' : ¬ jp * 7 = (jp + 1) * 7 := by omega
              have q1a : ¬ (jp + 1) * 7 + 1 = jp * 7 := by omega
              have q1b : ¬ (jp + 1) * 7 = jp * 7 + 1 := by omega
              have q1c : ¬ jp * 7 = (jp + 1) * 7 + 1 := by omega
              have q1d : ¬ jp * 7 + 1 = (jp + 1) * 7 := by omega
              have q2a : ¬ (jp + 1) * 7 + 2 = jp * 7 := by omega
              have q2b : ¬ (jp + 1) * 7 = jp * 7 + 2 := by omega
              have q2c : ¬ jp * 7 = (jp + 1) * 7 + 2 := by omega
              have q2d : ¬ jp * 7 + 2 = (jp + 1) * 7 := by omega
              have q3a : ¬ (jp + 1) * 7 + 3 = jp * 7 := by omega
              have q3b : ¬ (jp + 1) * 7 = jp * 7 + 3 := by omega
              have q3c : ¬ jp * 7 = (jp + 1) * 7 + 3 := by omega
              have q3d : ¬ jp * 7 + 3 = (jp + 1) * 7 := by omega
              have q4a : ¬ (jp + 1) * 7 + 4 = jp * 7 := by omega
              have q4b : ¬ (jp + 1) * 7 = jp * 7 + 4 := by omega
              have q4c : ¬ jp * 7 = (jp + 1) * 7 + 4 := by omega
              have q4d : ¬ jp * 7 + 4 = (jp + 1) * 7 := by omega
              have q5a : ¬ (jp + 1) * 7 + 5 = jp * 7 := by omega
              have q5b : ¬ (jp + 1) * 7 = jp * 7 + 5 := by omega
              have q5c : ¬ jp * 7 = (jp + 1) * 7 + 5 := by omega
              have q5d : ¬ jp * 7 + 5 = (jp + 1) * 7 := by omega
              have q6a : ¬ (jp + 1) * 7 + 6 = jp * 7 := by omega
              have q6b : ¬ (jp + 1) * 7 = jp * 7 + 6 := by omega
              have q6c : ¬ jp * 7 = (jp + 1) * 7 + 6 := by omega
              have q6d : ¬ jp * 7 + 6 = (jp + 1) * 7 := by omega
              go_region
              all_goals go_wp2_with fail
              go_roundw
              case rel =>
                refine ⟨jp, m + nq + 1, swp dj (jp + 1) jp, rfl, by omega, by rw [size_swp]; exact hsj, ?_, (show Hid _ from ?_)⟩
                · rw [← swS_swp (m + nq) dj hg3 (jp + 1) jp (by omega) (by omega), HXJ.out, HXP.out, ← swS_drewN, ← HWR2.out]
                  rfl
                · show _ = _
                  have := insInner_go ltS' 0 (jp + 1) dj (by omega) (by simp only [Nat.add_sub_cancel]; rw [HXJ.out, HXP.out, ltS'_iff]; exact decide_eq_true hlv)
                  simp only [Nat.add_sub_cancel] at this
                  rw [← HI.out, this]
              case measure => simp [intOf]
            · go_wp2_with fail
              go_quiet (fail)
              go_wp2_with fail
              go_roundw
              case rel => exact ⟨i + 1, m + nq, dj, by go_num, by omega, by omega, hsj, by rw [HWR2.out, swS_drewN], OUT.out (.inr (by simp only [Nat.add_sub_cancel]; rw [HXJ.out, HXP.out, ltS'_iff]; exact decide_eq_false (by omega)))⟩
              case measure => simp [intOf]; omega
      · have hltz : ¬ (i : Int) < (nn : Int) + 1 := by omega
        have HO2 : Hid (dk = insertionSort ltS' d 0 (nn + 1)) := by show _ = _; unfold insertionSort; rw [← HO.out, insOuter_stop _ _ _ _ _ hlt]
        have HD2 : Hid (dk.toList = sortS xs) := by
          show _ = _
          rcases ins_sorted xs with h | h
          · rw [HO2.out, ← HD.out, ← HNN.out]; exact h
          · exact absurd HN.out h
        have HF : Hid (Sl wr w1.heap.size wr.heap.size 7 encS (some ⟨g, 0, none⟩) (nn + 1) (sortS xs) ∧ RowKit.Below w1.heap.size w3 wr) := by
          rw [hwr, ← HD2.out]
          exact ⟨sl_sorted encS_len HOW.out HNN.out hsk hg1 hg3, below_sorted hg1 hg3⟩
        clear hwr
        go_wp2_with fail
        go_ret2
        exact ⟨⟨_, _, cg, by rw [HA.out]; rfl, by rw [HL.out]; exact HF.out.1.less hw1⟩, HB3.out.trans (HF.out.2.mono hw1)⟩
end Go.Proofs.YtnaoagkelbjflaaGreatDoor
