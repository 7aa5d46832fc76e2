/- Union: the reference's; the law of the union. -/
import Derived.Test.YtnaoagkelbjflaaGreatDoorUs
set_option linter.unusedSimpArgs false
set_option linter.unusedVariables false
namespace Go.Proofs.YtnaoagkelbjflaaGreatDoor
open Go.RowKit

theorem chk_srt_joined {a b : List Spm} (ha : chk a = 0) (hb : chk b = 0) (hbad : b.any (bad a) = false) : unionE a b = chk (joined a b) ∧ unionL a b = srtL (joined a b) := by
  have h := chk_joined ha hb
  by_cases hl : 64 < (joined a b).length
  · have h1 := unionE_full ha hb hbad hl
    rw [if_pos hl] at h
    exact ⟨by rw [h1, h], by rw [union_zero_or _ _ (by rw [h1]; decide)]; unfold srtL; rw [if_neg (by rw [h]; decide)]⟩
  · have h1 := unionE_ok ha hb hbad (by omega)
    rw [if_neg hl] at h
    exact ⟨by rw [h1, h], by unfold unionL srtL; rw [if_pos h1, if_pos h]⟩

set_option maxRecDepth 100000 in
set_option maxHeartbeats 4000000 in
theorem runion_any (A : Option Addr) (len cap : Nat) (xs : List Spm) (A' : Option Addr) (len' cap' : Nat) (ys : List Spm) (w : World) (hlen : len ≤ 1000000) (hlen' : len' ≤ 1000000) (hS : Sl w 0 w.heap.size 7 encS A len xs) (hS' : Sl w 0 w.heap.size 7 encS A' len' ys) :
    Calls Tryz.prog 27 #[.slice A len cap, .slice A' len' cap'] w (ListOut w (unionL xs ys) (unionE xs ys)) := by
  have HS := Lib.hid hS; clear hS
  have HS' := Lib.hid hS'; clear hS'
  go_enter Tryz.func27, Tryz.ntmps27
  go_wp2_with fail
  refine (rcheck_any A len cap xs _ hlen HS.out).mono ?_; rintro e w1 ⟨rfl, hb⟩
  by_cases ha : ¬ chk xs = 0
  · have hd : (chk xs != 0) = true := by simpa using ha
    have HE : Hid (unionE xs ys = chk xs) := unionE_a ha
    have HL : Hid (unionL xs ys = []) := union_zero_or _ _ (by rw [HE.out]; exact ha)
    generalize chk xs = c at *
    clear ha
    go_wp2_with fail
    go_ret2
    exact ⟨⟨none, 0, 0, by rw [HE.out]; rfl, by rw [HL.out]; exact Sl.nil⟩, hb⟩
  replace ha := Classical.not_not.1 ha
  have hd : (chk xs != 0) = false := by simpa using ha
  have HA := Lib.hid ha
  rw [ha]
  clear ha hd
  go_wp2_with fail
  refine (rcheck_any A' len' cap' ys _ hlen' (HS'.out.up hb (Nat.le_refl _) (Nat.le_refl _))).mono ?_; rintro e w2 ⟨rfl, hb2⟩
  (replace hb := hb.trans (hb2.mono hb.size)); clear hb2
  by_cases hbb : ¬ chk ys = 0
  · have hd : (chk ys != 0) = true := by simpa using hbb
    have HE : Hid (unionE xs ys = chk ys) := unionE_b HA.out hbb
    have HL : Hid (unionL xs ys = []) := union_zero_or _ _ (by rw [HE.out]; exact hbb)
    generalize chk ys = c at *
    clear hbb
    go_wp2_with fail
    go_ret2
    exact ⟨⟨none, 0, 0, by rw [HE.out]; rfl, by rw [HL.out]; exact Sl.nil⟩, hb⟩
  replace hbb := Classical.not_not.1 hbb
  have hd : (chk ys != 0) = false := by simpa using hbb
  have HB := Lib.hid hbb
  rw [hbb]
  clear hbb hd
  have hla : xs.length ≤ 64 := chk_len HA.out
  have hlb : ys.length ≤ 64 := chk_len HB.out
  have HLA : Hid (xs.length = len) := HS.out.len
  have HLB : Hid (ys.length = len') := HS'.out.len
  have hl64 : len ≤ 64 := by have := HLA.out; omega
  obtain ⟨i0, hi0, hz0, hz1, hz2⟩ := info_parts Tryz.infoS
  have hown0 : (w2.alloc (.cells #[] 23)).ownsRow w2.heap.size 23 7 (.slice (some ⟨w2.heap.size, 0, none⟩) 0 0) 0 [] := World.ownsRow_lit w2 #[] 0 (Nat.le_refl _) (by unfold maxLen; omega) rfl
  have HO := Lib.hid hown0; clear hown0
  have hS1 : Sl (w2.alloc (.cells #[] 23)) 0 w.heap.size 7 encS A len xs := (HS.out.below hb (Nat.le_refl _)).below (one_alloc _ _) (by have := hb.size; omega)
  have HS1 := Lib.hid hS1; clear hS1
  have HW : Hid (Below w.heap.size w w2) := hb
  clear hb
  go_wp2_with (at_builtin; refine wpList_append_sl _ rfl _ _ 31 rfl w2.heap.size 23 i0 (.agg #[.int .i64 0, .int .i64 0, .int .i64 0, .int .i64 0, .int .i64 0, .int .i64 0, .int .i64 0]) 7 56 encS_len oneS Tryz.underlying31 hi0 hz0 hz1 hz2 rfl (by decide) _ _ _ rfl HO.out cap rfl HS1.out ?c3 ?c4 ?c5 ?_)
  case c3 => unfold maxLen; omega
  case c4 => omega
  case c5 => simp
  intro v' w3 hown' hgrow
  have hb3 : Below w2.heap.size w2 w3 := Below.grown (one_alloc _ _) hgrow (by simp) (fun g hg => by simp [Value.ownBlock] at hg; omega)
  have hown3 : w3.ownsRow w2.heap.size 23 7 v' xs.length (xs.flatMap encS) := by have := HLA.out; simpa [this] using hown'
  clear hown' hgrow
  have HB3 := Lib.hid hb3; clear hb3
  go_wp2_with fail
  go_loopw [8, 9] (fun v i wr => ∃ k : Nat, k ≤ len' ∧ i = .int .i64 (k : Int) ∧ (ys.take k).any (bad xs) = false ∧ wr.ownsRow w2.heap.size 23 7 v (xs ++ (ys.take k).filter (fresh xs)).length ((xs ++ (ys.take k).filter (fresh xs)).flatMap encS) ∧ Below w2.heap.size w2 wr) (fun _ i _ => len' - (intOf i).toNat)
  case atStart => exact ⟨0, by omega, rfl, rfl, by simpa using hown3, HB3.out⟩
  case round =>
    obtain ⟨k, hk, rfl, hnb, hown, hb⟩ := hrel
    have HNB := Lib.hid hnb; clear hnb
    have hzr : w2.heap.size ≤ wr.heap.size := hb.size
    have HBW : Hid (Below w.heap.size w wr) := HW.out.trans (hb.mono HW.out.size)
    have hjl : (xs ++ (ys.take k).filter (fresh xs)).length ≤ 128 := by
      have h1 := joined_len xs (ys.take k)
      rw [List.length_take] at h1
      omega
    by_cases hlt : k < len'
    · have hltz : (k : Int) < (len' : Int) := by omega
      have hS2 : Sl wr 0 w.heap.size 7 encS A' len' ys := HS'.out.below HBW.out (Nat.le_refl _)
      obtain ⟨b, off, y, rfl, hbb, hy, c0, c1, c2, c3, c4, c5, c6⟩ := hS2.sp hlt
      clear hS2
      have hw2 : w.heap.size ≤ wr.heap.size := HBW.out.size
      have hbr : b < wr.heap.size := by omega
      have hJ := joined_take (a := xs) hy
      generalize xs ++ (ys.take k).filter (fresh xs) = js at *
      have HJ := Lib.hid hJ; clear hJ
      have HY := Lib.hid hy; clear hy
      have hS2 : Sl wr 0 wr.heap.size 7 encS A len xs := HS.out.up HBW.out (Nat.le_refl _) (Nat.le_refl _)
      have hne := fun z W => neSpmV z y W
      go_wp2_with fail
      refine (rfind_any A len cap xs y.id _ hlen hS2).mono ?_; rintro e w4 ⟨rfl, hb4⟩
      have q0 := (hb4.cell (p := ⟨b, off + k * 7, none⟩) hbr).trans c0
      have q1 := (hb4.cell (p := ⟨b, off + k * 7 + 1, none⟩) hbr).trans c1
      have q2 := (hb4.cell (p := ⟨b, off + k * 7 + 2, none⟩) hbr).trans c2
      have q3 := (hb4.cell (p := ⟨b, off + k * 7 + 3, none⟩) hbr).trans c3
      have q4 := (hb4.cell (p := ⟨b, off + k * 7 + 4, none⟩) hbr).trans c4
      have q5 := (hb4.cell (p := ⟨b, off + k * 7 + 5, none⟩) hbr).trans c5
      have q6 := (hb4.cell (p := ⟨b, off + k * 7 + 6, none⟩) hbr).trans c6
      clear c0 c1 c2 c3 c4 c5 c6 hS2
      have hown4 := own_below' hown hb4
      have hz4 := hb4.size
      have hb5 := hb.trans (hb4.mono hb.size)
      have hbr4 : b < w4.heap.size := by omega
      clear hb4 hown hb
      cases hf : findS xs y.id with
      | none =>
        rw [findV_none hf]
        have HFR : Hid (fresh xs y = true) := by show _ = _; unfold fresh; rw [hf]; rfl
        have HBD : Hid (bad xs y = false) := by show _ = _; unfold bad; rw [hf]
        clear hf
        obtain ⟨A0, c0', rfl, _⟩ := own_form hown4
        go_wp2_with fail
        go_quiet (fail)
        go_wp2_with (at_builtin; refine wpList_append_own _ rfl _ _ 31 rfl w2.heap.size 23 i0 (.agg #[.int .i64 0, .int .i64 0, .int .i64 0, .int .i64 0, .int .i64 0, .int .i64 0, .int .i64 0]) 7 56 Tryz.underlying31 hi0 hz0 hz1 hz2 rfl (by decide) _ _ _ rfl (ownsRow_drewN ((hown4.alloc _).alloc _) _) ⟨w4.heap.size + 1, 0, none⟩ 1 1 (encS y) rfl rfl ?c1 (encS_one y) ?c3 ?c4 ?c5 ?_)
        case c1 => exact cell_list_at (by simp) _ _
        case c3 => unfold maxLen; omega
        case c4 => omega
        case c5 => simp; omega
        · intro v' w5 hown' hgrow _
          have hb6 : Below w2.heap.size w2 w5 := Below.grown (Below.alloc (below_drewN (Below.alloc hb5 (by omega) _) _) (by simp; omega) _) hgrow (by simp; omega) (fun g hg => (hown4.lt g hg).1)
          clear hgrow hown4 hb5
          go_wp2_with fail
          go_roundw
          case rel =>
            refine ⟨k + 1, by omega, by go_num, any_bad_take HY.out HNB.out HBD.out, ?_, hb6⟩
            rw [HJ.out, if_pos HFR.out, List.flatMap_append, List.length_append]
            simpa using hown'
          case measure => simp [intOf]; omega
      | some z =>
        rw [findV_some hf]
        have HFR : Hid (fresh xs y = false) := by show _ = _; unfold fresh; rw [hf]; rfl
        have HBD : Hid (bad xs y = decide (z ≠ y)) := by show _ = _; unfold bad; rw [hf]
        clear hf
        by_cases he : z = y
        · have hd : decide (z = y) = true := decide_eq_true he
          have hnz := hne z; clear hne
          rw [hd] at hnz
          have HE := Lib.hid he; clear he hd
          go_wp2_with fail
          go_quiet (fail)
          go_wp2_with fail
          go_roundw
          case rel =>
            refine ⟨k + 1, by omega, by go_num, any_bad_take HY.out HNB.out (by rw [HBD.out, HE.out]; simp), ?_, below_drewN (Below.alloc hb5 (by omega) _) _⟩
            rw [HJ.out, if_neg (by rw [HFR.out]; decide), List.append_nil]
            exact ownsRow_drewN (hown4.alloc _) _
          case measure => simp [intOf]; omega
        · have hd : decide (z = y) = false := decide_eq_false he
          have hnz := hne z; clear hne
          rw [hd] at hnz
          have HE := Lib.hid he; clear he hd
          have HEU : Hid (unionE xs ys = 10) := unionE_bad HA.out HB.out (bad_take HY.out (by rw [HBD.out]; simpa using HE.out))
          have HL : Hid (unionL xs ys = []) := union_zero_or _ _ (by rw [HEU.out]; decide)
          go_wp2_with fail
          go_quiet (fail)
          go_wp2_with fail
          go_ret2
          exact ⟨⟨none, 0, 0, by rw [HEU.out]; rfl, by rw [HL.out]; exact Sl.nil⟩, HW.out.trans ((below_drewN (Below.alloc hb5 (by omega) _) _).mono HW.out.size)⟩
    · obtain rfl : k = len' := by omega
      have HT : Hid (ys.take k = ys) := List.take_of_length_le (by have := HLB.out; omega)
      have HNB2 : Hid (ys.any (bad xs) = false) := by show _ = _; have := HNB.out; rwa [HT.out] at this
      rw [HT.out] at hown hjl
      clear HNB
      change wr.ownsRow _ _ _ _ (joined xs ys).length ((joined xs ys).flatMap encS) at hown
      change (joined xs ys).length ≤ 128 at hjl
      obtain ⟨hue, hul⟩ := chk_srt_joined HA.out HB.out HNB2.out
      have HUE := Lib.hid hue; have HUL := Lib.hid hul; clear hue hul
      obtain ⟨A0, c0, rfl, _⟩ := own_form hown
      have hSo := Sl.of_own (enc := encS) encS_len hown rfl
      clear hown
      have HSo := Lib.hid hSo; clear hSo
      go_wp2_with fail
      refine (rsort_any A0 _ c0 (joined xs ys) _ (by omega) (HSo.out.any)).mono ?_
      rintro e w6 ⟨⟨A6, n6, c6, rfl, hS6⟩, hb6⟩
      go_wp2_with fail
      go_ret2
      exact ⟨⟨A6, _, c6, by rw [HUE.out]; rfl, by rw [HUL.out]; exact hS6.less HBW.out.size⟩, HBW.out.trans (hb6.mono HBW.out.size)⟩
end Go.Proofs.YtnaoagkelbjflaaGreatDoor
